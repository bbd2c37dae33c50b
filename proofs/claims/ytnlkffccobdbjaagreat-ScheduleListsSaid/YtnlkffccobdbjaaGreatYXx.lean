/- The law ScheduleLists returns true. Its premises are its own. -/
import Derived.Test.YtnlkffccobdbjaaGreatYXk
import Derived.Test.YtnlkffccobdbjaaGreatYXq
import Derived.Test.YtnlkffccobdbjaaGreatYXs
import Derived.Test.YtnlkffccobdbjaaGreatYXu
import Derived.Test.YtnlkffccobdbjaaGreatYY5
namespace Go.Proofs.YtnlkffccobdbjaaGreat
open Go Go.RowKit Go.Dw
section
variable {a a' : Option Addr} {n c n' c' : Nat} {TT : List Tk} {SS : List Sn}
set_option maxHeartbeats 1000000 in
set_option maxRecDepth 10000 in
theorem lists50_ok {oa : Option Addr} {on oc : Nat} {O : List Int} (rule : Int) (w : World) (hT : Sl encT 4 (Hp.whole w) a n c TT) (hS : Sl encN 2 (Hp.whole w) a' n' c' SS) (hO : Sl (encF fU) 1 (Hp.whole w) oa on oc O) (hb : ∀ u ∈ O, 0 ≤ u ∧ u ≤ 255) :
    CallsE Tryz.prog 6 #[sv a n c a' n' c', .slice oa on oc, .int .i64 rule] w (RetV w (.bool true)) := by
  have lT := hT.len
  obtain ⟨fi, hfi⟩ : ∃ fi, fi = fineF50 TT SS 6 := ⟨_, rfl⟩
  have kF : ∀ w' : World, Sl encT 4 (Hp.whole w') a n c TT → Sl encN 2 (Hp.whole w') a' n' c' SS → CallsE Tryz.prog 14 #[sv a n c a' n' c', .int .i64 6] w' (RetV w' (.bool fi)) := fun w' h1 h2 => by
    rw [hfi]; exact fine50_spec 6 w' h1 h2
  refine enter (X := cx 75) (cxg _) (args := [.agg #[.slice a n c, .slice a' n' c'], .slice oa on oc, .int .i64 rule]) [.tmp 6] Tryz.func6 rfl rfl rfl rfl rfl ?_
  intro b2
  refine hideQ (fun _ kz => kz _ _ ?_)
  refine hideQ (fun q0 k0 => ?_)
  refine hideK 3 (fun q1 k1 => ?_)
  refine callV _ (fun w' _ => known50_spec w') ?_
  refine k1 _ _ ?_
  refine hideK 5 (fun q2 k2 => ?_)
  refine callV _ (fun w' hm => kF w' (hT.mono encT_mono (hm 0 _ rfl)) (hS.mono encN_mono (hm 0 _ rfl))) ?_
  refine k2 _ _ ?_
  cases fi with
  | false =>
    refine k0 _ _ ?_
    refine condT rfl ?_
    refine callV _ (fun w' _ => known50_spec w') ?_
    exact ⟨[], ⟨rfl, rfl⟩, fun w' h => h.pick [0] rfl rfl⟩
  | true =>
    obtain ⟨hN, hM, hfw, hE⟩ := fine50_of hfi.symm
    have hs := (few49_sml hfw).1
    have hF := fit_of hs hE
    refine k0 _ _ ?_
    refine bsplitd (fun h3 => ?_) (fun h3 => ?_)
    · refine callV _ (fun w' _ => known50_spec w') ?_
      exact ⟨[], ⟨rfl, rfl⟩, fun w' h => h.pick [0] rfl rfl⟩
    obtain ⟨order, hor⟩ : ∃ order, order = dwnF O n := ⟨_, rfl⟩
    have hperm : order.Perm (natL (List.range TT.length)) := by rw [hor, lT]; exact dwnF_perm O TT.length
    have hok : OrdOk TT.length order := ord_perm hperm
    have hol := hok.l
    have ho12 := (shop_ok hE).2.2.2.1
    obtain ⟨J, hJ⟩ : ∃ J, J = (lisK TT SS order order.length).1 := ⟨_, rfl⟩
    have hJl : J.length = TT.length := by rw [hJ]; exact (lis_sch hF hE hok).len
    have kO : ∀ w' : World, Sl (encF fU) 1 (Hp.whole w') oa on oc O → CallsE Tryz.prog 23 #[.slice oa on oc, .int .i64 n] w' (Ret w' fun v cs => ∃ o : Dw.Os, v = o.v ∧ cs = [.hp o.h] ∧ OwnO fI 3 1 o order) := fun w' h => by
      rw [hor]; exact of_spec n w' h hb (by omega)
    refine call (fun w' hm => kO w' (hO.mono (encF_mono _) (hm 0 _ rfl))) ?_
    rintro _ _ ⟨o1, rfl, rfl, ho1⟩
    have s1 := OwnO.sl (f := fI) (fun _ => rfl) (by decide) ho1
    have l1 := s1.len
    refine NeedD.by_order (cxg _) (.take 0 <| .take 1 <| .run 2 <| .run 3 <| .take 4 <| .take 5 <| .take 6 <| .take 7 <| .take 8 <| .done) (by kernel_rfl) ?_
    refine call (fun w' hm => cloneInts_spec w' (s1.mono (encF_mono _) (hm 2 _ rfl)) (by omega)) ?_
    rintro _ _ ⟨o2, rfl, rfl, ho2⟩
    have s2 := OwnO.sl (f := fI) (fun _ => rfl) (by decide) ho2
    refine ⟨(by repeat first | exact trivial | refine ⟨.inl rfl, ?_⟩ | refine ⟨.inr rfl, ?_⟩), ?_⟩
    have kL : ∀ w' : World, Sl encT 4 (Hp.whole w') a n c TT → Sl encN 2 (Hp.whole w') a' n' c' SS → Sl (encF fI) 1 (Hp.whole w') o2.a o2.n o2.c order → CallsE Tryz.prog 24 #[sv a n c a' n' c', .slice o2.a o2.n o2.c] w' (RetJ w' J 0) := fun w' h1 h2 h3 => by
      have := List_spec w' h1 h2 hs h3 (by omega)
      rwa [lisE_perm hE hperm, lisR_perm hE hperm, ← hJ] at this
    refine call (fun w' hm => kL w' (hT.mono encT_mono (hm 0 _ rfl)) (hS.mono encN_mono (hm 0 _ rfl)) (s2.mono (encF_mono _) (hm 3 _ rfl))) ?_
    rintro _ _ ⟨oJ, rfl, rfl, hoJ⟩
    have sJ := OwnO.sl (f := fJ) (fun _ => rfl) (by decide) hoJ
    have lJ := sJ.len
    refine ⟨(by repeat first | exact trivial | refine ⟨.inl rfl, ?_⟩ | refine ⟨.inr rfl, ?_⟩), ?_⟩
    obtain ⟨P, hP⟩ : ∃ P, P = prR TT SS rule := ⟨_, rfl⟩
    obtain ⟨Z, hZ⟩ : ∃ Z, Z = prE TT SS rule := ⟨_, rfl⟩
    have kP : ∀ w' : World, Sl encT 4 (Hp.whole w') a n c TT → Sl encN 2 (Hp.whole w') a' n' c' SS → CallsE Tryz.prog 26 #[sv a n c a' n' c', .int .i64 rule] w' (RetI w' P Z) := fun w' h1 h2 => by
      rw [hP, hZ]; exact Priority_spec rule w' h1 h2 hs (by omega)
    refine call (fun w' hm => kP w' (hT.mono encT_mono (hm 0 _ rfl)) (hS.mono encN_mono (hm 0 _ rfl))) ?_
    rintro _ _ ⟨oP, rfl, rfl, hoP⟩
    have sP := OwnO.sl (f := fI) (fun _ => rfl) (by decide) hoP
    have lP := sP.len
    have kl : ∀ w' : World, Sl encT 4 (Hp.whole w') a n c TT → Sl encN 2 (Hp.whole w') a' n' c' SS → Sl (encF fI) 1 (Hp.whole w') o1.a o1.n o1.c order → CallsE Tryz.prog 28 #[sv a n c a' n' c', .slice o1.a o1.n o1.c] w' (Ret w' fun v cs => ∃ o : Dw.Os, v = o.v ∧ cs = [.hp o.h] ∧ OwnO fJ 52 3 o J) := fun w' h1 h2 h3 => by
      rw [hJ]; exact list50_spec w' h1 h2 hs hE h3 hok
    refine call (fun w' hm => kl w' (hT.mono encT_mono (hm 0 _ rfl)) (hS.mono encN_mono (hm 0 _ rfl)) (s1.mono (encF_mono _) (hm 2 _ rfl))) ?_
    rintro _ _ ⟨oK, rfl, rfl, hoK⟩
    have sK := OwnO.sl (f := fJ) (fun _ => rfl) (by decide) hoK
    refine callV (.bool true) (fun w' hm => by
      have := equalJobs_spec w' (sJ.mono (encF_mono _) (hm 4 _ rfl)) (sK.mono (encF_mono _) (hm 6 _ rfl)) (by omega)
      rwa [decide_eq_true (rfl : J = J)] at this) ?_
    have hZ2 : Z = if rule < 1 ∨ rule > 3 then 12 else 0 := by rw [hZ]; unfold prE; rw [if_neg (fun h => h hE)]
    have hP2 : P = if Z = 0 then prL TT (tailsF TT) rule else [] := by rw [hP, hZ]; rfl
    refine bsplitd (fun h6 => ?_) (fun h6 => ?_)
    · rw [if_pos (.inl h6)] at hZ2
      subst hZ2
      rw [if_neg (by decide)] at hP2
      subst hP2
      exact ⟨[], ⟨by rw [decide_eq_true (by rw [lP]; rfl)], rfl⟩, fun w' h => h.pick [0] rfl rfl⟩
    refine bsplitd (fun h8 => ?_) (fun h8 => ?_)
    · rw [if_pos (.inr h8)] at hZ2
      subst hZ2
      rw [if_neg (by decide)] at hP2
      subst hP2
      exact ⟨[], ⟨by rw [decide_eq_true (by rw [lP]; rfl)], rfl⟩, fun w' h => h.pick [0] rfl rfl⟩
    have hr : ¬ (rule < 1 ∨ rule > 3) := by omega
    rw [if_neg hr] at hZ2
    subst hZ2
    rw [if_pos rfl, prM_eq TT hr] at hP2
    have hPl : P.length ≤ 1000 := by rw [hP2, ← prM_eq TT hr, (prL_ord TT (tailsF TT) rule).l]; omega
    have kp : ∀ w' : World, Sl encT 4 (Hp.whole w') a n c TT → CallsE Tryz.prog 30 #[sv a n c a' n' c', .int .i64 rule] w' (Ret w' fun v cs => ∃ o : Dw.Os, v = o.v ∧ cs = [.hp o.h] ∧ OwnO fI 3 1 o P) := fun w' h1 => by
      rw [hP2]; exact priority50_spec rule w' h1 hF ho12 (by omega)
    refine call (fun w' hm => kp w' (hT.mono encT_mono (hm 0 _ rfl))) ?_
    rintro _ _ ⟨oQ, rfl, rfl, hoQ⟩
    have sQ := OwnO.sl (f := fI) (fun _ => rfl) (by decide) hoQ
    refine callV (.bool true) (fun w' hm => by
      have := equalInts_spec w' (sP.mono (encF_mono _) (hm 5 _ rfl)) (sQ.mono (encF_mono _) (hm 7 _ rfl)) (by omega)
      rwa [decide_eq_true (rfl : P = P)] at this) ?_
    exact ⟨[], ⟨rfl, rfl⟩, fun w' h => h.pick [0] rfl rfl⟩
end
end Go.Proofs.YtnlkffccobdbjaaGreat
