/- The law ScheduleChecks returns true. Its premises are its own. -/
import Derived.Test.YtnlkffccobdbjaaGreatYXk
import Derived.Test.YtnlkffccobdbjaaGreatYXn
namespace Go.Proofs.YtnlkffccobdbjaaGreat
open Go Go.RowKit Go.Dw
section
variable {a a' : Option Addr} {n c n' c' : Nat} {TT : List Tk} {SS : List Sn}
set_option maxHeartbeats 1000000 in
set_option maxRecDepth 10000 in
theorem checks50_ok {al : Option Addr} {nl cl : Nat} {L : List Jb} (w : World) (hT : Sl encT 4 (Hp.whole w) a n c TT) (hS : Sl encN 2 (Hp.whole w) a' n' c' SS) (hL : Sl (encF fJ) 3 (Hp.whole w) al nl cl L) :
    CallsE Tryz.prog 10 #[sv a n c a' n' c', .slice al nl cl] w (RetV w (.bool true)) := by
  have lL := hL.len
  obtain ⟨fi, hfi⟩ : ∃ fi, fi = fineF50 TT SS 6 := ⟨_, rfl⟩
  have kF : ∀ w' : World, Sl encT 4 (Hp.whole w') a n c TT → Sl encN 2 (Hp.whole w') a' n' c' SS → CallsE Tryz.prog 14 #[sv a n c a' n' c', .int .i64 6] w' (RetV w' (.bool fi)) := fun w' h1 h2 => by
    rw [hfi]; exact fine50_spec 6 w' h1 h2
  refine enter (X := cx 99) (cxg _) (args := [.agg #[.slice a n c, .slice a' n' c'], .slice al nl cl]) [.tmp 4] Tryz.func10 rfl rfl rfl rfl rfl ?_
  intro b2
  refine hideQ (fun _ kz => kz _ _ ?_)
  refine hideQ (fun q0 k0 => ?_)
  refine hideK 3 (fun q1 k1 => ?_)
  refine callV _ (fun w' _ => known50_spec w') ?_
  refine k1 _ _ ?_
  refine hideK 5 (fun q2 k2 => ?_)
  refine callV _ (fun w' hm => kF w' (hT.mono encT_mono (hm 0 _ rfl)) (hS.mono encN_mono (hm 0 _ rfl))) ?_
  refine k2 _ _ ?_
  cases fi with
  | false =>
    refine k0 _ _ ?_
    refine condT rfl ?_
    refine callV _ (fun w' _ => known50_spec w') ?_
    exact ⟨[], ⟨rfl, rfl⟩, fun w' h => h.pick [0] rfl rfl⟩
  | true =>
    obtain ⟨hN, hM, hfw, hE⟩ := fine50_of hfi.symm
    have hs := (few49_sml hfw).1
    have hF := fit_of hs hE
    obtain ⟨Z, hZ⟩ : ∃ Z, Z = chkE TT SS L := ⟨_, rfl⟩
    obtain ⟨M, hMk⟩ : ∃ M, M = mkR TT SS L := ⟨_, rfl⟩
    obtain ⟨I, hI⟩ : ∃ I, I = idR TT SS L := ⟨_, rfl⟩
    obtain ⟨Y, hY⟩ : ∃ Y, Y = earR TT SS L := ⟨_, rfl⟩
    have hZs : Z = schE TT SS L := by rw [hZ]; unfold chkE; rw [if_neg (by omega)]
    have bad : Z ≠ 0 → M = 0 ∧ I.length = 0 ∧ Y.length = 0 := fun h => by
      rw [hZ] at h
      exact ⟨by rw [hMk]; unfold mkR; rw [if_neg h], by rw [hI]; unfold idR; rw [if_neg h]; rfl, by rw [hY]; unfold earR; rw [if_neg h]; rfl⟩
    have good : Z = 0 → M = mspF TT L ∧ I = idF TT SS L ∧ Y = earF TT SS L := fun h => by
      rw [hZ] at h
      exact ⟨by rw [hMk]; unfold mkR; rw [if_pos h], by rw [hI]; unfold idR; rw [if_pos h], by rw [hY]; unfold earR; rw [if_pos h]⟩
    refine k0 _ _ ?_
    refine bsplitd (fun h3 => ?_) (fun h3 => ?_)
    · refine callV _ (fun w' _ => known50_spec w') ?_
      exact ⟨[], ⟨rfl, rfl⟩, fun w' h => h.pick [0] rfl rfl⟩
    refine callV (.int .i64 Z) (fun w' hm => by rw [hZs]; exact check50_spec w' (hT.mono encT_mono (hm 0 _ rfl)) (hS.mono encN_mono (hm 0 _ rfl)) hs hF (hL.mono (encF_mono _) (hm 0 _ rfl))) ?_
    refine NeedD.by_order (cxg _) (.take 0 <| .take 1 <| .run 2 <| .run 3 <| .take 4 <| .take 5 <| .take 6 <| .take 7 <| .take 8 <| .done) (by kernel_rfl) ?_
    refine call (fun w' hm => cloneJobs_spec w' (hL.mono (encF_mono _) (hm 0 _ rfl)) (by omega)) ?_
    rintro _ _ ⟨o1, rfl, rfl, ho1⟩
    have s1 := OwnO.sl (f := fJ) (fun _ => rfl) (by decide) ho1
    refine ⟨(by repeat first | exact trivial | refine ⟨.inl rfl, ?_⟩ | refine ⟨.inr rfl, ?_⟩), ?_⟩
    refine callV (.tuple #[.int .i64 M, .int .i64 Z]) (fun w' hm => by rw [hMk, hZ]; exact Makespan_spec w' (hT.mono encT_mono (hm 0 _ rfl)) (hS.mono encN_mono (hm 0 _ rfl)) hs (s1.mono (encF_mono _) (hm 2 _ rfl))) ?_
    refine ⟨(by repeat first | exact trivial | refine ⟨.inl rfl, ?_⟩ | refine ⟨.inr rfl, ?_⟩), ?_⟩
    refine NeedD.by_order (cxg _) (.take 0 <| .take 1 <| .run 2 <| .run 3 <| .take 4 <| .take 5 <| .take 6 <| .take 7 <| .take 8 <| .done) (by kernel_rfl) ?_
    refine call (fun w' hm => cloneJobs_spec w' (hL.mono (encF_mono _) (hm 0 _ rfl)) (by omega)) ?_
    rintro _ _ ⟨o2, rfl, rfl, ho2⟩
    have s2 := OwnO.sl (f := fJ) (fun _ => rfl) (by decide) ho2
    refine ⟨(by repeat first | exact trivial | refine ⟨.inl rfl, ?_⟩ | refine ⟨.inr rfl, ?_⟩), ?_⟩
    have kI : ∀ w' : World, Sl encT 4 (Hp.whole w') a n c TT → Sl encN 2 (Hp.whole w') a' n' c' SS → Sl (encF fJ) 3 (Hp.whole w') o2.a o2.n o2.c L → CallsE Tryz.prog 42 #[sv a n c a' n' c', .slice o2.a o2.n o2.c] w' (RetI w' I Z) := fun w' h1 h2 h3 => by
      rw [hI, hZ]; exact Idle_spec w' h1 h2 hs h3
    refine call (fun w' hm => kI w' (hT.mono encT_mono (hm 0 _ rfl)) (hS.mono encN_mono (hm 0 _ rfl)) (s2.mono (encF_mono _) (hm 3 _ rfl))) ?_
    rintro _ _ ⟨oI, rfl, rfl, hoI⟩
    refine ⟨(by repeat first | exact trivial | refine ⟨.inl rfl, ?_⟩ | refine ⟨.inr rfl, ?_⟩), ?_⟩
    refine NeedD.by_order (cxg _) (.take 0 <| .take 1 <| .run 2 <| .run 3 <| .take 4 <| .take 5 <| .take 6 <| .take 7 <| .take 8 <| .done) (by kernel_rfl) ?_
    refine call (fun w' hm => cloneJobs_spec w' (hL.mono (encF_mono _) (hm 0 _ rfl)) (by omega)) ?_
    rintro _ _ ⟨o3, rfl, rfl, ho3⟩
    have s3 := OwnO.sl (f := fJ) (fun _ => rfl) (by decide) ho3
    have l3 := s3.len
    refine ⟨(by repeat first | exact trivial | refine ⟨.inl rfl, ?_⟩ | refine ⟨.inr rfl, ?_⟩), ?_⟩
    have kY : ∀ w' : World, Sl encT 4 (Hp.whole w') a n c TT → Sl encN 2 (Hp.whole w') a' n' c' SS → Sl (encF fJ) 3 (Hp.whole w') o3.a o3.n o3.c L → CallsE Tryz.prog 40 #[sv a n c a' n' c', .slice o3.a o3.n o3.c] w' (RetJ w' Y Z) := fun w' h1 h2 h3 => by
      rw [hY, hZ]; exact Early_spec w' h1 h2 hs h3 (by omega) (by omega)
    refine call (fun w' hm => kY w' (hT.mono encT_mono (hm 0 _ rfl)) (hS.mono encN_mono (hm 0 _ rfl)) (s3.mono (encF_mono _) (hm 5 _ rfl))) ?_
    rintro _ _ ⟨oY, rfl, rfl, hoY⟩
    refine ⟨(by repeat first | exact trivial | refine ⟨.inl rfl, ?_⟩ | refine ⟨.inr rfl, ?_⟩), ?_⟩
    refine NeedD.cut Bool (fun g => [(1, .v (.slice al nl cl)), (2, .bx 1 0), (5, .v (.int .i64 Z)), (6, .v (.int .i64 M)), (8, .v oI.v), (10, .v oY.v), (69, .v (.bool g))]) (fun _ => [.hp (Hp.whole w), .box b2 [.slice a n c, .slice a' n' c'] 25, .hp oI.h, .hp oY.h]) (fun g => g = false) (NeedD.by_order (cxg _) (.take 0 <| .take 1 <| .take 4 <| .run 2 <| .run 3 <| .take 5 <| .take 6 <| .take 7 <| .take 8 <| .take 9 <| .take 10 <| .take 11 <| .take 12 <| .take 13 <| .take 14 <| .take 15 <| .take 16 <| .take 17 <| .take 18 <| .take 19 <| .take 20 <| .done) (by kernel_rfl) ?_) ?_
    · refine call (fun w' hm => cloneJobs_spec w' (hL.mono (encF_mono _) (hm 0 _ rfl)) (by omega)) ?_
      rintro _ _ ⟨o4, rfl, rfl, ho4⟩
      have s4 := OwnO.sl (f := fJ) (fun _ => rfl) (by decide) ho4
      refine ⟨(by repeat first | exact trivial | refine ⟨.inl rfl, ?_⟩ | refine ⟨.inr rfl, ?_⟩), ?_⟩
      refine callV (.int .i64 Z) (fun w' hm => by rw [hZ]; exact Check_spec w' (hT.mono encT_mono (hm 0 _ rfl)) (hS.mono encN_mono (hm 0 _ rfl)) hs (s4.mono (encF_mono _) (hm 7 _ rfl))) ?_
      refine ⟨(by repeat first | exact trivial | refine ⟨.inl rfl, ?_⟩ | refine ⟨.inr rfl, ?_⟩), ?_⟩
      refine bsplitd (fun h => absurd rfl h) (fun _ => ?_)
      refine bsplitd (fun h => absurd rfl h) (fun _ => ?_)
      refine bsplitd (fun h => absurd rfl h) (fun _ => ?_)
      exact ⟨decide (Z ≠ Z), decide_eq_false (fun h => h rfl), Ent.mk (fun _ _ h => h.pick [0, 1, 4, 6] rfl rfl) rfl rfl⟩
    rintro g hg hsat
    dsimp only
    have lI := hoI.len
    have lY := hoY.len
    refine bsplit (fun h7 => by rw [hg] at h7; cases h7) (fun h7 => ?_)
    refine bsplitd (fun h8 => ?_) (fun h8 => ?_)
    · obtain ⟨g1, g2, g3⟩ := bad h8
      refine nw (by omega) (by omega) ?_
      refine nw (by omega) (by omega) ?_
      exact ⟨[], ⟨by rw [decide_eq_true (by omega)], rfl⟩, fun w' h => h.pick [0] rfl rfl⟩
    · have hZ0 : Z = 0 := Decidable.not_not.1 h8
      obtain ⟨g1, g2, g3⟩ := good hZ0
      have hSch : Sch TT SS L := (sch_iff hF).1 (hZs.symm.trans hZ0)
      have sI := OwnO.sl (f := fI) (fun _ => rfl) (by decide) hoI
      have sY := OwnO.sl (f := fJ) (fun _ => rfl) (by decide) hoY
      have hln := hSch.len
      refine callV (.int .i64 M) (fun w' hm => by rw [g1]; exact makespan50_spec w' (hT.mono encT_mono (hm 0 _ rfl)) hF (hL.mono (encF_mono _) (hm 0 _ rfl)) (by omega) (fun i hi => by
        have := hSch.s0 i (by omega)
        exact ⟨hSch.tk i (by omega), this.1, by omega⟩)) ?_
      refine bsplitd (fun h9 => ?_) (fun h9 => absurd rfl h9)
      refine call (fun w' hm => idle50_spec w' (hT.mono encT_mono (hm 0 _ rfl)) (hS.mono encN_mono (hm 0 _ rfl)) hF (by omega) (hL.mono (encF_mono _) (hm 0 _ rfl)) hln (fun i hi => by
        have := hSch.s0 i (by omega)
        exact ⟨hSch.tk i (by omega), hSch.st i (by omega), this.1, by omega⟩)) ?_
      rintro _ _ ⟨oI2, rfl, rfl, hoI2⟩
      have sI2 := OwnO.sl (f := fI) (fun _ => rfl) (by decide) hoI2
      have hIl : I.length ≤ 1000 := by rw [g2, (idF_get (TT := TT) (SS := SS) (L := L) fun j hj => by
        obtain ⟨i, hi, rfl⟩ := List.mem_iff_getElem.1 hj
        have := hSch.st i (by omega)
        unfold snA at this
        rwa [show jbA L i = L[i] from gD hi] at this).1]; omega
      rw [← g2] at sI2
      obtain ⟨t1, ht1⟩ : ∃ t1 : Bool, t1 = true := ⟨_, rfl⟩
      refine callV (.bool t1) (fun w' hm => by
        have := equalInts_spec w' (sI.mono (encF_mono _) (hm 2 _ rfl)) (sI2.mono (encF_mono _) (hm 4 _ rfl)) (by omega)
        rwa [decide_eq_true (rfl : I = I), ← ht1] at this) ?_
      refine bsplit (fun h10 => ?_) (fun h10 => by rw [ht1] at h10; cases h10)
      refine call (fun w' hm => early50_spec w' (hT.mono encT_mono (hm 0 _ rfl)) hF (hL.mono (encF_mono _) (hm 0 _ rfl)) hSch) ?_
      rintro _ _ ⟨oY2, rfl, rfl, hoY2⟩
      have sY2 := OwnO.sl (f := fJ) (fun _ => rfl) (by decide) hoY2
      have hYl : Y.length = TT.length := by rw [g3]; exact (ear_p hF hSch).sch.len
      rw [← g3] at sY2
      refine callV (.bool true) (fun w' hm => by
        have := equalJobs_spec w' (sY.mono (encF_mono _) (hm 3 _ rfl)) (sY2.mono (encF_mono _) (hm 5 _ rfl)) (by omega)
        rwa [decide_eq_true (rfl : Y = Y)] at this) ?_
      exact ⟨[], ⟨rfl, rfl⟩, fun w' h => h.pick [0] rfl rfl⟩
end
end Go.Proofs.YtnlkffccobdbjaaGreat
