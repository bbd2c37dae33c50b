/- The law ScheduleBest returns true. Its premises are its own. -/
import Derived.Test.YtnlkffccobdbjaaGreatYXk
import Derived.Test.YtnlkffccobdbjaaGreatYYc
namespace Go.Proofs.YtnlkffccobdbjaaGreat
open Go Go.RowKit Go.Dw
section
variable {a a' : Option Addr} {n c n' c' : Nat} {TT : List Tk} {SS : List Sn}
set_option maxHeartbeats 1000000 in
set_option maxRecDepth 10000 in
theorem bestlaw50_ok  (w : World) (hT : Sl encT 4 (Hp.whole w) a n c TT) (hS : Sl encN 2 (Hp.whole w) a' n' c' SS) :
    CallsE Tryz.prog 5 #[sv a n c a' n' c'] w (RetV w (.bool true)) := by
  have lT := hT.len
  obtain ⟨fi, hfi⟩ : ∃ fi, fi = fineF50 TT SS 5 := ⟨_, rfl⟩
  have kF : ∀ w' : World, Sl encT 4 (Hp.whole w') a n c TT → Sl encN 2 (Hp.whole w') a' n' c' SS → CallsE Tryz.prog 14 #[sv a n c a' n' c', .int .i64 5] w' (RetV w' (.bool fi)) := fun w' h1 h2 => by
    rw [hfi]; exact fine50_spec 5 w' h1 h2
  refine enter (X := cx 34) (cxg _) (args := [.agg #[.slice a n c, .slice a' n' c']]) [.tmp 2] Tryz.func5 rfl rfl rfl rfl rfl ?_
  intro b2
  refine hideQ (fun _ kz => kz _ _ ?_)
  refine hideQ (fun q0 k0 => ?_)
  refine hideK 3 (fun q1 k1 => ?_)
  refine callV _ (fun w' _ => known50_spec w') ?_
  refine k1 _ _ ?_
  refine hideK 4 (fun q2 k2 => ?_)
  refine callV _ (fun w' hm => kF w' (hT.mono encT_mono (hm 0 _ rfl)) (hS.mono encN_mono (hm 0 _ rfl))) ?_
  refine k2 _ _ ?_
  cases fi with
  | false =>
    refine k0 _ _ ?_
    refine condT rfl ?_
    refine callV _ (fun w' _ => known50_spec w') ?_
    exact ⟨[], ⟨rfl, rfl⟩, fun w' h => h.pick [0] rfl rfl⟩
  | true =>
    obtain ⟨hN, hM, hfw, hE⟩ := fine50_of hfi.symm
    have hs := (few49_sml hfw).1
    have hF := fit_of hs hE
    refine k0 _ _ ?_
    refine condF rfl ?_
    obtain ⟨g1, g2⟩ := bst_best hF hE (by omega)
    have hl := fun l (h : LeP (vlS TT SS TT.length (begS TT SS)) l) => bst_least hF hE (by omega) h
    have e0 : bstE TT SS = 0 := by unfold bstE; rw [if_neg (fun h => h hE), if_neg (by omega)]
    obtain ⟨B, hB⟩ : ∃ B, B = bstR TT SS := ⟨_, rfl⟩
    rw [← hB] at g1 g2 hl
    have kB : ∀ w' : World, Sl encT 4 (Hp.whole w') a n c TT → Sl encN 2 (Hp.whole w') a' n' c' SS → CallsE Tryz.prog 19 #[sv a n c a' n' c'] w' (RetB w' B 0) := fun w' h1 h2 => by
      have := Best_spec w' h1 h2 hs (by omega)
      rwa [e0, ← hB] at this
    refine call (fun w' hm => kB w' (hT.mono encT_mono (hm 0 _ rfl)) (hS.mono encN_mono (hm 0 _ rfl))) ?_
    rintro _ _ ⟨ba, bn, bc, hG, rfl, rfl, sB⟩
    have lB := sB.len
    have hBl := g1.len
    have hz : schE TT SS B = 0 := (sch_iff hF).2 g1
    refine NeedD.by_order (cxg _) (.take 0 <| .take 1 <| .take 2 <| .take 3 <| .take 4 <| .run 5 <| .take 6 <| .take 7 <| .take 8 <| .take 9 <| .take 10 <| .take 12 <| .run 11 <| .run 13 <| .take 14 <| .take 15 <| .take 16 <| .done) (by kernel_rfl) ?_
    refine callV (.int .i64 0) (fun w' hm => by
      have := check50_spec w' (hT.mono encT_mono (hm 0 _ rfl)) (hS.mono encN_mono (hm 0 _ rfl)) hs hF (sB.mono (encF_mono _) (hm 2 _ rfl))
      rwa [hz] at this) ?_
    refine ⟨(by repeat first | exact trivial | refine ⟨.inl rfl, ?_⟩ | refine ⟨.inr rfl, ?_⟩), ?_⟩
    obtain ⟨M, hMd⟩ : ∃ M, M = mspF TT B := ⟨_, rfl⟩
    refine callV (.int .i64 M) (fun w' hm => by rw [hMd]; exact makespan50_spec w' (hT.mono encT_mono (hm 0 _ rfl)) hF (sB.mono (encF_mono _) (hm 2 _ rfl)) (by omega) (fun i hi => by
      have := g1.s0 i (by omega)
      exact ⟨g1.tk i (by omega), this.1, by omega⟩)) ?_
    refine ⟨(by repeat first | exact trivial | refine ⟨.inl rfl, ?_⟩ | refine ⟨.inr rfl, ?_⟩), ?_⟩
    refine call (fun w' hm => best50_spec w' (hT.mono encT_mono (hm 0 _ rfl)) (hS.mono encN_mono (hm 0 _ rfl)) hs hE) ?_
    rintro _ _ ⟨l, rfl, rfl, hLe⟩
    obtain rfl : l = M := by rw [hMd]; exact hl l hLe
    refine ⟨(by repeat first | exact trivial | refine ⟨.inl rfl, ?_⟩ | refine ⟨.inr rfl, ?_⟩), ?_⟩
    exact ⟨[], ⟨by rw [decide_eq_true rfl], rfl⟩, fun w' h => h.pick [0] rfl rfl⟩
end
end Go.Proofs.YtnlkffccobdbjaaGreat
