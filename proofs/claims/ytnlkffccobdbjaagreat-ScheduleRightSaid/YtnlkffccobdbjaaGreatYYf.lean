/- The law ScheduleRight returns true. Its premises are its own. -/
import Derived.Test.YtnlkffccobdbjaaGreatYXk
import Derived.Test.YtnlkffccobdbjaaGreatYXn
import Derived.Test.YtnlkffccobdbjaaGreatYYd
namespace Go.Proofs.YtnlkffccobdbjaaGreat
open Go Go.RowKit Go.Dw
section
variable {a a' : Option Addr} {n c n' c' : Nat} {TT : List Tk} {SS : List Sn}
set_option maxHeartbeats 1000000 in
set_option maxRecDepth 10000 in
theorem right50_ok {oa : Option Addr} {on oc : Nat} {O : List Int} (lat : Int) (w : World) (hT : Sl encT 4 (Hp.whole w) a n c TT) (hS : Sl encN 2 (Hp.whole w) a' n' c' SS) (hO : Sl (encF fU) 1 (Hp.whole w) oa on oc O) (hb : ∀ u ∈ O, 0 ≤ u ∧ u ≤ 255) (hl : 0 ≤ lat ∧ lat ≤ 255) :
    CallsE Tryz.prog 12 #[sv a n c a' n' c', .slice oa on oc, .int .u8 lat] w (RetV w (.bool true)) := by
  have lT := hT.len
  obtain ⟨fi, hfi⟩ : ∃ fi, fi = fineF50 TT SS 6 := ⟨_, rfl⟩
  have kF : ∀ w' : World, Sl encT 4 (Hp.whole w') a n c TT → Sl encN 2 (Hp.whole w') a' n' c' SS → CallsE Tryz.prog 14 #[sv a n c a' n' c', .int .i64 6] w' (RetV w' (.bool fi)) := fun w' h1 h2 => by
    rw [hfi]; exact fine50_spec 6 w' h1 h2
  refine enter (X := cx 86) (cxg _) (args := [.agg #[.slice a n c, .slice a' n' c'], .slice oa on oc, .int .u8 lat]) [.tmp 6] Tryz.func12 rfl rfl rfl rfl rfl ?_
  intro b2
  refine hideQ (fun _ kz => kz _ _ ?_)
  refine hideQ (fun q0 k0 => ?_)
  refine hideK 3 (fun q1 k1 => ?_)
  refine callV _ (fun w' _ => known50_spec w') ?_
  refine k1 _ _ ?_
  refine hideK 5 (fun q2 k2 => ?_)
  refine callV _ (fun w' hm => kF w' (hT.mono encT_mono (hm 0 _ rfl)) (hS.mono encN_mono (hm 0 _ rfl))) ?_
  refine k2 _ _ ?_
  cases fi with
  | false =>
    refine k0 _ _ ?_
    refine condT rfl ?_
    refine callV _ (fun w' _ => known50_spec w') ?_
    exact ⟨[], ⟨rfl, rfl⟩, fun w' h => h.pick [0] rfl rfl⟩
  | true =>
    obtain ⟨hN, hM, hfw, hE⟩ := fine50_of hfi.symm
    have hs := (few49_sml hfw).1
    have hF := fit_of hs hE
    refine k0 _ _ ?_
    refine bsplitd (fun h3 => ?_) (fun h3 => ?_)
    · refine callV _ (fun w' _ => known50_spec w') ?_
      exact ⟨[], ⟨rfl, rfl⟩, fun w' h => h.pick [0] rfl rfl⟩
    have hSch : Sch TT SS (dwF TT SS O lat) := dw_sch hF hE (by omega)
    have kD : ∀ w' : World, Sl encT 4 (Hp.whole w') a n c TT → Sl encN 2 (Hp.whole w') a' n' c' SS → Sl (encF fU) 1 (Hp.whole w') oa on oc O → CallsE Tryz.prog 38 #[sv a n c a' n' c', .slice oa on oc, .int .u8 lat] w' (Ret w' fun v cs => ∃ o : Dw.Os, v = o.v ∧ cs = [.hp o.h] ∧ OwnO fJ 52 3 o (dwF TT SS O lat)) := fun w' h1 h2 h3 => drawn_spec lat w' h1 h2 hs hE h3 hb (by omega) hl
    obtain ⟨L, hLd⟩ : ∃ L, L = dwF TT SS O lat := ⟨_, rfl⟩
    rw [← hLd] at hSch kD
    refine call (fun w' hm => kD w' (hT.mono encT_mono (hm 0 _ rfl)) (hS.mono encN_mono (hm 0 _ rfl)) (hO.mono (encF_mono _) (hm 0 _ rfl))) ?_
    rintro _ _ ⟨oL, rfl, rfl, hoL⟩
    clear kD hLd
    have sL := OwnO.sl (f := fJ) (fun _ => rfl) (by decide) hoL
    have lL := sL.len
    have hLl := hSch.len
    have kM : ∀ (w' : World) {al : Option Addr} {nl cl : Nat} {L : List Jb}, Sch TT SS L → Sl encT 4 (Hp.whole w') a n c TT → Sl encN 2 (Hp.whole w') a' n' c' SS → Sl (encF fJ) 3 (Hp.whole w') al nl cl L → CallsE Tryz.prog 39 #[sv a n c a' n' c', .slice al nl cl] w' (RetV w' (.tuple #[.int .i64 (mspF TT L), .int .i64 0])) := fun w' _ _ _ L hL h1 h2 h3 => by
      have := Makespan_spec w' h1 h2 hs h3
      have e := (chk_iff hF hE).2 hL
      unfold mkR at this
      rwa [e, if_pos rfl] at this
    have kE : ∀ (w' : World) {al : Option Addr} {nl cl : Nat} {L : List Jb}, Sch TT SS L → Sl encT 4 (Hp.whole w') a n c TT → Sl encN 2 (Hp.whole w') a' n' c' SS → Sl (encF fJ) 3 (Hp.whole w') al nl cl L → CallsE Tryz.prog 40 #[sv a n c a' n' c', .slice al nl cl] w' (RetJ w' (earF TT SS L) 0) := fun w' _ nl _ L hL h1 h2 h3 => by
      have := Early_spec w' h1 h2 hs h3 (by omega) (by have := h3.len; have := hL.len; omega)
      have e := (chk_iff hF hE).2 hL
      unfold earR at this
      rwa [e, if_pos rfl] at this
    have kI : ∀ w' : World, Sl encT 4 (Hp.whole w') a n c TT → Sl encN 2 (Hp.whole w') a' n' c' SS → Sl (encF fJ) 3 (Hp.whole w') oL.a oL.n oL.c L → CallsE Tryz.prog 42 #[sv a n c a' n' c', .slice oL.a oL.n oL.c] w' (RetI w' (idF TT SS L) 0) := fun w' h1 h2 h3 => by
      have := Idle_spec w' h1 h2 hs h3
      have e := (chk_iff hF hE).2 hSch
      unfold idR at this
      rwa [e, if_pos rfl] at this
    have kC : ∀ w' : World, Sl encT 4 (Hp.whole w') a n c TT → Sl encN 2 (Hp.whole w') a' n' c' SS → Sl (encF fJ) 3 (Hp.whole w') oL.a oL.n oL.c L → CallsE Tryz.prog 43 #[sv a n c a' n' c', .slice oL.a oL.n oL.c] w' (RetV w' (.int .i64 0)) := fun w' h1 h2 h3 => by
      have := Check_spec w' h1 h2 hs h3
      rwa [(chk_iff hF hE).2 hSch] at this
    obtain ⟨M, hMd⟩ : ∃ M, M = mspF TT L := ⟨_, rfl⟩
    obtain ⟨I, hI⟩ : ∃ I, I = idF TT SS L := ⟨_, rfl⟩
    obtain ⟨Y, hY⟩ : ∃ Y, Y = earF TT SS L := ⟨_, rfl⟩
    refine callV (.tuple #[.int .i64 M, .int .i64 0]) (fun w' hm => by rw [hMd]; exact kM w' hSch (hT.mono encT_mono (hm 0 _ rfl)) (hS.mono encN_mono (hm 0 _ rfl)) (sL.mono (encF_mono _) (hm 2 _ rfl))) ?_
    rw [← hI] at kI
    refine call (fun w' hm => kI w' (hT.mono encT_mono (hm 0 _ rfl)) (hS.mono encN_mono (hm 0 _ rfl)) (sL.mono (encF_mono _) (hm 2 _ rfl))) ?_
    rintro _ _ ⟨oI, rfl, rfl, hoI⟩
    have kY : ∀ w' : World, Sl encT 4 (Hp.whole w') a n c TT → Sl encN 2 (Hp.whole w') a' n' c' SS → Sl (encF fJ) 3 (Hp.whole w') oL.a oL.n oL.c L → CallsE Tryz.prog 40 #[sv a n c a' n' c', .slice oL.a oL.n oL.c] w' (RetJ w' Y 0) := fun w' h1 h2 h3 => by rw [hY]; exact kE w' hSch h1 h2 h3
    refine call (fun w' hm => kY w' (hT.mono encT_mono (hm 0 _ rfl)) (hS.mono encN_mono (hm 0 _ rfl)) (sL.mono (encF_mono _) (hm 2 _ rfl))) ?_
    rintro _ _ ⟨oY, rfl, rfl, hoY⟩
    refine hideQ (fun _ kz => kz _ _ ?_)
    refine hideK 23 (fun _ k1 => ?_)
    refine callV (.int .i64 0) (fun w' hm => kC w' (hT.mono encT_mono (hm 0 _ rfl)) (hS.mono encN_mono (hm 0 _ rfl)) (sL.mono (encF_mono _) (hm 2 _ rfl))) ?_
    clear kM kE kI kY kC
    have sI := OwnO.sl (f := fI) (fun _ => rfl) (by decide) hoI
    have sY := OwnO.sl (f := fJ) (fun _ => rfl) (by decide) hoY
    have lI := sI.len
    have lY := sY.len
    refine callV (.int .i64 M) (fun w' hm => by rw [hMd]; exact makespan50_spec w' (hT.mono encT_mono (hm 0 _ rfl)) hF (sL.mono (encF_mono _) (hm 2 _ rfl)) (by omega) (fun i hi => by
      have := hSch.s0 i (by omega)
      exact ⟨hSch.tk i (by omega), this.1, by omega⟩)) ?_
    refine k1 _ _ ?_
    rw [decide_eq_true (rfl : M = M)]
    refine call (fun w' hm => idle50_spec w' (hT.mono encT_mono (hm 0 _ rfl)) (hS.mono encN_mono (hm 0 _ rfl)) hF (by omega) (sL.mono (encF_mono _) (hm 2 _ rfl)) hLl (fun i hi => by
      have := hSch.s0 i (by omega)
      exact ⟨hSch.tk i (by omega), hSch.st i (by omega), this.1, by omega⟩)) ?_
    rintro _ _ ⟨oI2, rfl, rfl, hoI2⟩
    have sI2 := OwnO.sl (f := fI) (fun _ => rfl) (by decide) hoI2
    have hIl : I.length ≤ 1000 := by rw [hI, (idF_get (TT := TT) (SS := SS) (L := L) fun j hj => by
      obtain ⟨i, hi, rfl⟩ := List.mem_iff_getElem.1 hj
      have := hSch.st i (by omega)
      unfold snA at this
      rwa [show jbA L i = L[i] from gD hi] at this).1]; omega
    rw [← hI] at sI2
    refine callV (.bool true) (fun w' hm => by
      have := equalInts_spec w' (sI.mono (encF_mono _) (hm 3 _ rfl)) (sI2.mono (encF_mono _) (hm 5 _ rfl)) (by omega)
      rwa [decide_eq_true (rfl : I = I)] at this) ?_
    refine call (fun w' hm => early50_spec w' (hT.mono encT_mono (hm 0 _ rfl)) hF (sL.mono (encF_mono _) (hm 2 _ rfl)) hSch) ?_
    rintro _ _ ⟨oY2, rfl, rfl, hoY2⟩
    have sY2 := OwnO.sl (f := fJ) (fun _ => rfl) (by decide) hoY2
    have hYl : Y.length = TT.length := by rw [hY]; exact (ear_p hF hSch).sch.len
    rw [← hY] at sY2
    refine callV (.bool true) (fun w' hm => by
      have := equalJobs_spec w' (sY.mono (encF_mono _) (hm 4 _ rfl)) (sY2.mono (encF_mono _) (hm 6 _ rfl)) (by omega)
      rwa [decide_eq_true (rfl : Y = Y)] at this) ?_
    exact ⟨[], ⟨rfl, rfl⟩, fun w' h => h.pick [0] rfl rfl⟩
end
end Go.Proofs.YtnlkffccobdbjaaGreat
