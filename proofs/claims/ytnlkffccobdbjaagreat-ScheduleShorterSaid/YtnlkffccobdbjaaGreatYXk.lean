/- Contract of the model of layer 50: known returns true. Its premises are its own. -/
import Derived.Test.YtnlkffccobdbjaaGreatYXj
namespace Go.Proofs.YtnlkffccobdbjaaGreat
open Go Go.RowKit Go.Dw
theorem ex_sml : Sml exT exS := ⟨by decide, by decide, by decide, by decide⟩
theorem ex_len : (lowR exT exS).2.1.length < 1000 ∧ (lowR exT exS).2.2.1.length < 1000 ∧ (lowR exT exS).2.2.2.length < 1000 := by decide +kernel
def exL : List Jb := [(0, 0, 0), (1, 1, 0), (2, 0, 3)]
set_option maxHeartbeats 4000000 in
set_option maxRecDepth 10000 in
theorem known50_aux (w : World) {LL BB : List Jb} {x : Lx} (hLL : LL = exL) (hBl : BB.length = 3) (hx : x.1 = 7)
    (kL : ∀ {a a' ao : Option Addr} {n c n' c' no co : Nat} (w : World), Sl encT 4 (Hp.whole w) a n c exT → Sl encN 2 (Hp.whole w) a' n' c' exS → Sl (encF fI) 1 (Hp.whole w) ao no co [0, 1, 2] → CallsE Tryz.prog 24 #[sv a n c a' n' c', .slice ao no co] w (RetJ w LL 0))
    (kB : ∀ {a a' : Option Addr} {n c n' c' : Nat} (w : World), Sl encT 4 (Hp.whole w) a n c exT → Sl encN 2 (Hp.whole w) a' n' c' exS → CallsE Tryz.prog 19 #[sv a n c a' n' c'] w (RetB w BB 0))
    (kW : ∀ {a a' : Option Addr} {n c n' c' : Nat} (w : World), Sl encT 4 (Hp.whole w) a n c exT → Sl encN 2 (Hp.whole w) a' n' c' exS → CallsE Tryz.prog 15 #[sv a n c a' n' c'] w (RetL w x 0))
    (kM : ∀ {a a' al : Option Addr} {n c n' c' nl cl : Nat} (w : World), Sl encT 4 (Hp.whole w) a n c exT → Sl (encF fJ) 3 (Hp.whole w) al nl cl BB → CallsE Tryz.prog 21 #[sv a n c a' n' c', .slice al nl cl] w (RetV w (.int .i64 7)))
    (kV : ∀ {a a' ac at' as0 : Option Addr} {n c n' c' nc cc nt ct ns cs' : Nat} (w : World), Sl encT 4 (Hp.whole w) a n c exT → Sl encN 2 (Hp.whole w) a' n' c' exS → Sl (encF fI) 1 (Hp.whole w) ac nc cc x.2.1 → Sl (encF fI) 1 (Hp.whole w) at' nt ct x.2.2.1 → Sl (encF fI) 1 (Hp.whole w) as0 ns cs' x.2.2.2 →
      CallsE Tryz.prog 18 #[sv a n c a' n' c', .int .i64 7, .agg #[.slice ac nc cc, .slice at' nt ct, .slice as0 ns cs']] w (RetV w (.int .i64 0))) :
    CallsE Tryz.prog 13 #[] w (RetV w (.bool true)) := by
  refine enter (X := cx 64) (cxg _) (args := []) [.tmp 0] Tryz.func13 rfl rfl rfl rfl rfl ?_
  refine call (fun w' _ => Example50_spec w') ?_
  rintro _ _ ⟨b1, b2, b3, rfl, rfl⟩
  intro b10
  refine call (fun w' hm => kL w' (ex_sl (hm 1 _ rfl) (hm 2 _ rfl) (hm 3 _ rfl)).1 (ex_sl (hm 1 _ rfl) (hm 2 _ rfl) (hm 3 _ rfl)).2 (Sl.box (f := fI) (fun _ => rfl) (by decide) (hm 4 _ rfl) [0, 1, 2] rfl rfl (by decide))) ?_
  rintro _ _ ⟨oL, rfl, rfl, hoL⟩
  refine call (fun w' _ => Example50_spec w') ?_
  rintro _ _ ⟨b4, b5, b6', rfl, rfl⟩
  refine call (fun w' hm => kB w' (ex_sl (hm 6 _ rfl) (hm 7 _ rfl) (hm 8 _ rfl)).1 (ex_sl (hm 6 _ rfl) (hm 7 _ rfl) (hm 8 _ rfl)).2) ?_
  rintro _ _ ⟨aB, nB, cB, hB, rfl, rfl, sB⟩
  refine call (fun w' _ => Example50_spec w') ?_
  rintro _ _ ⟨b7, b8, b9', rfl, rfl⟩
  refine call (fun w' hm => kW w' (ex_sl (hm 10 _ rfl) (hm 11 _ rfl) (hm 12 _ rfl)).1 (ex_sl (hm 10 _ rfl) (hm 11 _ rfl) (hm 12 _ rfl)).2) ?_
  rintro _ _ ⟨p, q, r, hW, rfl, rfl, ⟨rp, rq, rr⟩, hpx⟩
  have lB := sB.len
  have sL := OwnO.sl (f := fJ) (fun _ => rfl) (by decide) hoL
  have lL := sL.len
  rw [hLL] at sL lL
  obtain rfl : nB = 3 := by omega
  have p1 : p.L = x.2.1 := congrArg Prod.fst hpx
  have p2 : q.L = x.2.2.1 := congrArg (fun y => y.2.1) hpx
  have p3 : r.L = x.2.2.2 := congrArg (fun y => y.2.2) hpx
  intro b6
  rw [hx]
  refine NeedD.cut Unit (fun _ => [(0, .v (.bool true))]) (fun _ => [.hp (Hp.whole w)]) (fun _ => True) (NeedD.by_order (cxg _) (.take 0 <| .take 1 <| .take 2 <| .take 3 <| .take 4 <| .take 5 <| .take 6 <| .take 7 <| .take 8 <| .take 9 <| .take 10 <| .take 11 <| .take 12 <| .take 13 <| .take 14 <| .run 15 <| .run 16 <| .take 17 <| .take 18 <| .take 19 <| .take 20 <| .take 21 <| .take 22 <| .take 23 <| .take 25 <| .run 24 <| .run 26 <| .take 27 <| .take 28 <| .take 29 <| .take 30 <| .take 31 <| .take 32 <| .take 33 <| .take 35 <| .run 34 <| .run 36 <| .take 37 <| .take 38 <| .take 39 <| .done) (by kernel_rfl) ?_) ?_
  · intro b40
    refine ⟨(by repeat first | exact trivial | refine ⟨.inl rfl, ?_⟩ | refine ⟨.inr rfl, ?_⟩), ?_⟩
    refine callV (.bool true) (fun w' hm => by
      have := equalJobs_spec w' (sL.mono (encF_mono _) (hm 5 _ rfl)) (Sl.box (f := fJ) (fun _ => rfl) (by decide) (hm 15 _ rfl) exL rfl rfl (by decide)) (by rw [lL]; decide)
      rwa [decide_eq_true (rfl : exL = exL)] at this) ?_
    refine ⟨(by repeat first | exact trivial | refine ⟨.inl rfl, ?_⟩ | refine ⟨.inr rfl, ?_⟩), ?_⟩
    refine call (fun w' _ => Example50_spec w') ?_
    rintro _ _ ⟨b11, b12, b13, rfl, rfl⟩
    refine ⟨(by repeat first | exact trivial | refine ⟨.inl rfl, ?_⟩ | refine ⟨.inr rfl, ?_⟩), ?_⟩
    refine callV _ (fun w' hm => kM w' (ex_sl (hm 16 _ rfl) (hm 17 _ rfl) (hm 18 _ rfl)).1 (sB.mono (encF_mono _) (hm 9 _ rfl))) ?_
    refine ⟨(by repeat first | exact trivial | refine ⟨.inl rfl, ?_⟩ | refine ⟨.inr rfl, ?_⟩), ?_⟩
    refine call (fun w' _ => Example50_spec w') ?_
    rintro _ _ ⟨b14, b15, b16, rfl, rfl⟩
    refine ⟨(by repeat first | exact trivial | refine ⟨.inl rfl, ?_⟩ | refine ⟨.inr rfl, ?_⟩), ?_⟩
    refine callV _ (fun w' hm => kV w' (ex_sl (hm 19 _ rfl) (hm 20 _ rfl) (hm 21 _ rfl)).1 (ex_sl (hm 19 _ rfl) (hm 20 _ rfl) (hm 21 _ rfl)).2 (by rw [← p1]; exact rp.mono (hm 13 _ rfl)) (by rw [← p2]; exact rq.mono (hm 13 _ rfl)) (by rw [← p3]; exact rr.mono (hm 13 _ rfl))) ?_
    refine ⟨(by repeat first | exact trivial | refine ⟨.inl rfl, ?_⟩ | refine ⟨.inr rfl, ?_⟩), ?_⟩
    exact ⟨(), trivial, Ent.mk (fun _ _ h => h.pick [0] rfl rfl) rfl rfl⟩
  rintro ⟨⟩ _ _
  exact ⟨[], ⟨rfl, rfl⟩, fun w' h => h⟩
theorem known50_spec (w : World) : CallsE Tryz.prog 13 #[] w (RetV w (.bool true)) :=
  known50_aux w (LL := lisR exT exS [0, 1, 2]) (BB := bstR exT exS) (x := lowR exT exS) ex_list ex_blen ex_low
    (fun w h1 h2 h3 => by have := List_spec w h1 h2 ex_sml h3 (by decide); rwa [ex_lisE] at this)
    (fun w h1 h2 => by have := Best_spec w h1 h2 ex_sml (by decide); rwa [ex_bstE] at this)
    (fun w h1 h2 => by have := Lower_spec w h1 h2 ex_sml (by decide); rwa [ex_shop] at this)
    (fun w h1 h2 => by rw [← ex_best]; exact makespan50_spec w h1 (fit_of ex_sml ex_shop) h2 (by rw [ex_blen]; decide) ex_bjob)
    (fun w h1 h2 h3 h4 h5 => by have := Verify_spec 7 w h1 h2 ex_sml h3 h4 h5 ex_len.1 ex_len.2.1 ex_len.2.2; rwa [ex_vf] at this)
end Go.Proofs.YtnlkffccobdbjaaGreat
