/- The law ScheduleSound returns true. Its premises are its own. -/
import Derived.Test.YtnlkffccobdbjaaGreatYXk
import Derived.Test.YtnlkffccobdbjaaGreatYXv
import Derived.Test.YtnlkffccobdbjaaGreatYYd
import Derived.Test.YtnlkffccobdbjaaGreatXQ
namespace Go.Proofs.YtnlkffccobdbjaaGreat
open Go Go.RowKit Go.Dw
section
variable {a a' : Option Addr} {n c n' c' : Nat} {TT : List Tk} {SS : List Sn}
set_option maxHeartbeats 1000000 in
set_option maxRecDepth 10000 in
theorem sound50_ok {oa : Option Addr} {on oc : Nat} {O : List Int} (lat : Int) (w : World) (hT : Sl encT 4 (Hp.whole w) a n c TT) (hS : Sl encN 2 (Hp.whole w) a' n' c' SS) (hO : Sl (encF fU) 1 (Hp.whole w) oa on oc O) (hb : ∀ u ∈ O, 0 ≤ u ∧ u ≤ 255) (hl : 0 ≤ lat ∧ lat ≤ 255) :
    CallsE Tryz.prog 9 #[sv a n c a' n' c', .slice oa on oc, .int .u8 lat] w (RetV w (.bool true)) := by
  have lT := hT.len
  obtain ⟨fi, hfi⟩ : ∃ fi, fi = fineF50 TT SS 6 := ⟨_, rfl⟩
  have kF : ∀ w' : World, Sl encT 4 (Hp.whole w') a n c TT → Sl encN 2 (Hp.whole w') a' n' c' SS → CallsE Tryz.prog 14 #[sv a n c a' n' c', .int .i64 6] w' (RetV w' (.bool fi)) := fun w' h1 h2 => by
    rw [hfi]; exact fine50_spec 6 w' h1 h2
  refine enter (X := cx 137) (cxg _) (args := [.agg #[.slice a n c, .slice a' n' c'], .slice oa on oc, .int .u8 lat]) [.tmp 6] Tryz.func9 rfl rfl rfl rfl rfl ?_
  intro b2
  refine hideQ (fun _ kz => kz _ _ ?_)
  refine hideQ (fun q0 k0 => ?_)
  refine hideK 3 (fun q1 k1 => ?_)
  refine callV _ (fun w' _ => known50_spec w') ?_
  refine k1 _ _ ?_
  refine hideK 5 (fun q2 k2 => ?_)
  refine callV _ (fun w' hm => kF w' (hT.mono encT_mono (hm 0 _ rfl)) (hS.mono encN_mono (hm 0 _ rfl))) ?_
  refine k2 _ _ ?_
  cases fi with
  | false =>
    refine k0 _ _ ?_
    refine condT rfl ?_
    refine callV _ (fun w' _ => known50_spec w') ?_
    exact ⟨[], ⟨rfl, rfl⟩, fun w' h => h.pick [0] rfl rfl⟩
  | true =>
    obtain ⟨hN, hM, hfw, hE⟩ := fine50_of hfi.symm
    have hs := (few49_sml hfw).1
    have hF := fit_of hs hE
    refine k0 _ _ ?_
    refine bsplitd (fun h3 => ?_) (fun h3 => ?_)
    · refine callV _ (fun w' _ => known50_spec w') ?_
      exact ⟨[], ⟨rfl, rfl⟩, fun w' h => h.pick [0] rfl rfl⟩
    have hSch : Sch TT SS (dwF TT SS O lat) := dw_sch hF hE (by omega)
    have kD : ∀ w' : World, Sl encT 4 (Hp.whole w') a n c TT → Sl encN 2 (Hp.whole w') a' n' c' SS → Sl (encF fU) 1 (Hp.whole w') oa on oc O → CallsE Tryz.prog 38 #[sv a n c a' n' c', .slice oa on oc, .int .u8 lat] w' (Ret w' fun v cs => ∃ o : Dw.Os, v = o.v ∧ cs = [.hp o.h] ∧ OwnO fJ 52 3 o (dwF TT SS O lat)) := fun w' h1 h2 h3 => drawn_spec lat w' h1 h2 hs hE h3 hb (by omega) hl
    obtain ⟨L, hLd⟩ : ∃ L, L = dwF TT SS O lat := ⟨_, rfl⟩
    rw [← hLd] at hSch kD
    refine call (fun w' hm => kD w' (hT.mono encT_mono (hm 0 _ rfl)) (hS.mono encN_mono (hm 0 _ rfl)) (hO.mono (encF_mono _) (hm 0 _ rfl))) ?_
    rintro _ _ ⟨oL, rfl, rfl, hoL⟩
    clear kD hLd
    have sL := OwnO.sl (f := fJ) (fun _ => rfl) (by decide) hoL
    have lL := sL.len
    have hLl := hSch.len
    have kM : ∀ (w' : World) {al : Option Addr} {nl cl : Nat} {L : List Jb}, Sch TT SS L → Sl encT 4 (Hp.whole w') a n c TT → Sl encN 2 (Hp.whole w') a' n' c' SS → Sl (encF fJ) 3 (Hp.whole w') al nl cl L → CallsE Tryz.prog 39 #[sv a n c a' n' c', .slice al nl cl] w' (RetV w' (.tuple #[.int .i64 (mspF TT L), .int .i64 0])) := fun w' _ _ _ L hL h1 h2 h3 => by
      have := Makespan_spec w' h1 h2 hs h3
      have e := (chk_iff hF hE).2 hL
      unfold mkR at this
      rwa [e, if_pos rfl] at this
    have kE : ∀ (w' : World) {al : Option Addr} {nl cl : Nat} {L : List Jb}, Sch TT SS L → Sl encT 4 (Hp.whole w') a n c TT → Sl encN 2 (Hp.whole w') a' n' c' SS → Sl (encF fJ) 3 (Hp.whole w') al nl cl L → CallsE Tryz.prog 40 #[sv a n c a' n' c', .slice al nl cl] w' (RetJ w' (earF TT SS L) 0) := fun w' _ nl _ L hL h1 h2 h3 => by
      have := Early_spec w' h1 h2 hs h3 (by omega) (by have := h3.len; have := hL.len; omega)
      have e := (chk_iff hF hE).2 hL
      unfold earR at this
      rwa [e, if_pos rfl] at this
    obtain ⟨m, hmd⟩ : ∃ m, m = (lowF TT SS).1 := ⟨_, rfl⟩
    have hlow : ∀ L, Sch TT SS L → m ≤ mspF TT L := fun L hL => by rw [hmd]; exact low_snd hF hE hL
    have kL : ∀ w' : World, Sl encT 4 (Hp.whole w') a n c TT → Sl encN 2 (Hp.whole w') a' n' c' SS → CallsE Tryz.prog 15 #[sv a n c a' n' c'] w' (Ret w' fun v cs => ∃ (p q r : Sd) (h : Hp), v = .tuple #[.int .i64 m, .agg #[p.v, q.v, r.v], .int .i64 0] ∧ cs = [.hp h]) := fun w' h1 h2 => by
      have := Lower_spec w' h1 h2 hs (by omega)
      refine ⟨this.1, this.2.mono fun e w2 he => ?_⟩
      obtain ⟨v, cs, rfl, h3, p, q, r, h, rfl, rfl, _, _⟩ := he
      exact ⟨_, _, rfl, h3, p, q, r, h, by rw [hE, hmd]; unfold lowR; rw [if_pos hE], rfl⟩
    refine call (fun w' hm => kL w' (hT.mono encT_mono (hm 0 _ rfl)) (hS.mono encN_mono (hm 0 _ rfl))) ?_
    rintro _ _ ⟨p, q, r, hG, rfl, rfl⟩
    intro b9
    obtain ⟨M, hMd⟩ : ∃ M, M = mspF TT L := ⟨_, rfl⟩
    obtain ⟨Y, hY⟩ : ∃ Y, Y = earF TT SS L := ⟨_, rfl⟩
    have hYs : Sch TT SS Y := by rw [hY]; exact (ear_p hF hSch).sch
    have hYl := hYs.len
    have hYY : earF TT SS Y = Y := by rw [hY]; exact ear_ear hF hSch
    obtain ⟨MY, hMY⟩ : ∃ M, M = mspF TT Y := ⟨_, rfl⟩
    have le1 : m ≤ M := by rw [hMd]; exact hlow _ hSch
    have le2 : m ≤ MY := by rw [hMY]; exact hlow _ hYs
    have le3 : MY ≤ M := by rw [hMY, hMd, hY]; exact ear_msp hF hSch
    refine callV (.tuple #[.int .i64 M, .int .i64 0]) (fun w' hm => by rw [hMd]; exact kM w' hSch (hT.mono encT_mono (hm 0 _ rfl)) (hS.mono encN_mono (hm 0 _ rfl)) (sL.mono (encF_mono _) (hm 2 _ rfl))) ?_
    have kY : ∀ w' : World, Sl encT 4 (Hp.whole w') a n c TT → Sl encN 2 (Hp.whole w') a' n' c' SS → Sl (encF fJ) 3 (Hp.whole w') oL.a oL.n oL.c L → CallsE Tryz.prog 40 #[sv a n c a' n' c', .slice oL.a oL.n oL.c] w' (RetJ w' Y 0) := fun w' h1 h2 h3 => by rw [hY]; exact kE w' hSch h1 h2 h3
    refine call (fun w' hm => kY w' (hT.mono encT_mono (hm 0 _ rfl)) (hS.mono encN_mono (hm 0 _ rfl)) (sL.mono (encF_mono _) (hm 2 _ rfl))) ?_
    rintro _ _ ⟨oY, rfl, rfl, hoY⟩
    have sY := OwnO.sl (f := fJ) (fun _ => rfl) (by decide) hoY
    have lY := sY.len
    refine callV (.tuple #[.int .i64 MY, .int .i64 0]) (fun w' hm => by rw [hMY]; exact kM w' hYs (hT.mono encT_mono (hm 0 _ rfl)) (hS.mono encN_mono (hm 0 _ rfl)) (sY.mono (encF_mono _) (hm 5 _ rfl))) ?_
    have kZ : ∀ w' : World, Sl encT 4 (Hp.whole w') a n c TT → Sl encN 2 (Hp.whole w') a' n' c' SS → Sl (encF fJ) 3 (Hp.whole w') oY.a oY.n oY.c Y → CallsE Tryz.prog 40 #[sv a n c a' n' c', .slice oY.a oY.n oY.c] w' (RetJ w' Y 0) := fun w' h1 h2 h3 => by
      have := kE w' hYs h1 h2 h3
      rwa [hYY] at this
    refine call (fun w' hm => kZ w' (hT.mono encT_mono (hm 0 _ rfl)) (hS.mono encN_mono (hm 0 _ rfl)) (sY.mono (encF_mono _) (hm 5 _ rfl))) ?_
    rintro _ _ ⟨oZ, rfl, rfl, hoZ⟩
    have sZ := OwnO.sl (f := fJ) (fun _ => rfl) (by decide) hoZ
    clear kY kZ
    obtain ⟨order, hor⟩ : ∃ order, order = dwnF O n := ⟨_, rfl⟩
    have hperm : order.Perm (natL (List.range TT.length)) := by rw [hor, lT]; exact dwnF_perm O TT.length
    have hok : OrdOk TT.length order := ord_perm hperm
    have hol := hok.l
    obtain ⟨J, hJ⟩ : ∃ J, J = (lisK TT SS order order.length).1 := ⟨_, rfl⟩
    have hJs : Sch TT SS J := by rw [hJ]; exact lis_sch hF hE hok
    obtain ⟨MJ, hMJ⟩ : ∃ M, M = mspF TT J := ⟨_, rfl⟩
    have le4 : m ≤ MJ := by rw [hMJ]; exact hlow _ hJs
    have kO : ∀ w' : World, Sl (encF fU) 1 (Hp.whole w') oa on oc O → CallsE Tryz.prog 23 #[.slice oa on oc, .int .i64 n] w' (Ret w' fun v cs => ∃ o : Dw.Os, v = o.v ∧ cs = [.hp o.h] ∧ OwnO fI 3 1 o order) := fun w' h => by
      rw [hor]; exact of_spec n w' h hb (by omega)
    have kJ : ∀ (w' : World) {ra : Option Addr} {rn rc : Nat}, Sl encT 4 (Hp.whole w') a n c TT → Sl encN 2 (Hp.whole w') a' n' c' SS → Sl (encF fI) 1 (Hp.whole w') ra rn rc order → CallsE Tryz.prog 24 #[sv a n c a' n' c', .slice ra rn rc] w' (RetJ w' J 0) := fun w' _ _ _ h1 h2 h3 => by
      have := List_spec w' h1 h2 hs h3 (by omega)
      rwa [lisE_perm hE hperm, lisR_perm hE hperm, ← hJ] at this
    refine NeedD.by_order (cxg _) (.take 0 <| .take 1 <| .take 2 <| .take 3 <| .take 4 <| .run 5 <| .run 6 <| .take 7 <| .take 8 <| .take 9 <| .take 10 <| .take 11 <| .done) (by kernel_rfl) ?_
    refine call (fun w' hm => kO w' (hO.mono (encF_mono _) (hm 0 _ rfl))) ?_
    rintro _ _ ⟨o1, rfl, rfl, ho1⟩
    have s1 := OwnO.sl (f := fI) (fun _ => rfl) (by decide) ho1
    refine ⟨(by repeat first | exact trivial | refine ⟨.inl rfl, ?_⟩ | refine ⟨.inr rfl, ?_⟩), ?_⟩
    refine call (fun w' hm => kJ w' (hT.mono encT_mono (hm 0 _ rfl)) (hS.mono encN_mono (hm 0 _ rfl)) (s1.mono (encF_mono _) (hm 7 _ rfl))) ?_
    rintro _ _ ⟨oJ, rfl, rfl, hoJ⟩
    have sJ := OwnO.sl (f := fJ) (fun _ => rfl) (by decide) hoJ
    refine ⟨(by repeat first | exact trivial | refine ⟨.inl rfl, ?_⟩ | refine ⟨.inr rfl, ?_⟩), ?_⟩
    refine callV (.tuple #[.int .i64 MJ, .int .i64 0]) (fun w' hm => by rw [hMJ]; exact kM w' hJs (hT.mono encT_mono (hm 0 _ rfl)) (hS.mono encN_mono (hm 0 _ rfl)) (sJ.mono (encF_mono _) (hm 8 _ rfl))) ?_
    clear kM kE kJ kO kL
    refine hideQ (fun _ kz => kz _ _ ?_)
    refine hideK 31 (fun _ k1 => ?_)
    refine k1 _ _ ?_
    rw [decide_eq_true le1]
    refine hideK 5 (fun _ k2 => ?_)
    refine k2 _ _ ?_
    rw [decide_eq_true le2]
    refine hideK 5 (fun _ k3 => ?_)
    refine k3 _ _ ?_
    rw [decide_eq_true le4]
    refine hideK 5 (fun _ k4 => ?_)
    refine k4 _ _ ?_
    rw [decide_eq_true le3]
    refine callV (.bool true) (fun w' hm => by
      have := equalJobs_spec w' (sY.mono (encF_mono _) (hm 5 _ rfl)) (sZ.mono (encF_mono _) (hm 6 _ rfl)) (by omega)
      rwa [decide_eq_true (rfl : Y = Y)] at this) ?_
    exact ⟨[], ⟨rfl, rfl⟩, fun w' h => h.pick [0] rfl rfl⟩
end
end Go.Proofs.YtnlkffccobdbjaaGreat
