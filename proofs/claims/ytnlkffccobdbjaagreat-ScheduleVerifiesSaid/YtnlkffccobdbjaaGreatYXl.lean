/- The law ScheduleVerifies returns true. Its premises are its own. -/
import Derived.Test.YtnlkffccobdbjaaGreatYXk
namespace Go.Proofs.YtnlkffccobdbjaaGreat
open Go Go.RowKit Go.Dw
section
variable {a a' : Option Addr} {n c n' c' : Nat} {TT : List Tk} {SS : List Sn}
set_option maxRecDepth 10000 in
theorem verifies_ok {ac : Option Addr} {nc cc : Nat} {at' : Option Addr} {nt ct : Nat} {as0 : Option Addr} {ns cs' : Nat} {C T S : List Int} (b : Int) (w : World) (hT : Sl encT 4 (Hp.whole w) a n c TT) (hS : Sl encN 2 (Hp.whole w) a' n' c' SS)
    (hc : Sl (encF fI) 1 (Hp.whole w) ac nc cc C) (ht : Sl (encF fI) 1 (Hp.whole w) at' nt ct T) (hst : Sl (encF fI) 1 (Hp.whole w) as0 ns cs' S) :
    CallsE Tryz.prog 4 #[sv a n c a' n' c', .int .i64 b, .agg #[.slice ac nc cc, .slice at' nt ct, .slice as0 ns cs']] w (RetV w (.bool true)) := by
  have kc := hc.len
  have kt := ht.len
  have ks := hst.len
  obtain ⟨fi, hfi⟩ : ∃ fi, fi = fineF50 TT SS 6 := ⟨_, rfl⟩
  have kF : ∀ w' : World, Sl encT 4 (Hp.whole w') a n c TT → Sl encN 2 (Hp.whole w') a' n' c' SS → CallsE Tryz.prog 14 #[sv a n c a' n' c', .int .i64 6] w' (RetV w' (.bool fi)) := fun w' h1 h2 => by
    rw [hfi]; exact fine50_spec 6 w' h1 h2
  obtain ⟨Z, hZ⟩ : ∃ Z, Z = vfE TT SS b C T S := ⟨_, rfl⟩
  refine enter (X := cx 42) (cxg _) (args := [.agg #[.slice a n c, .slice a' n' c'], .int .i64 b, .agg #[.slice ac nc cc, .slice at' nt ct, .slice as0 ns cs']]) [.tmp 6] Tryz.func4 rfl rfl rfl rfl rfl ?_
  intro b3
  intro b5
  refine hideQ (fun _ kz => kz _ _ ?_)
  refine hideQ (fun q0 k0 => ?_)
  refine hideK 3 (fun q1 k1 => ?_)
  refine callV _ (fun w' _ => known50_spec w') ?_
  refine k1 _ _ ?_
  refine hideK 5 (fun q2 k2 => ?_)
  refine callV _ (fun w' hm => kF w' (hT.mono encT_mono (hm 0 _ rfl)) (hS.mono encN_mono (hm 0 _ rfl))) ?_
  refine k2 _ _ ?_
  cases fi with
  | false =>
    refine k0 _ _ ?_
    refine condT rfl ?_
    refine callV _ (fun w' _ => known50_spec w') ?_
    exact ⟨[], ⟨rfl, rfl⟩, fun w' h => h.pick [0] rfl rfl⟩
  | true =>
    obtain ⟨hN, hM, hfw, hE⟩ := fine50_of hfi.symm
    have hs := (few49_sml hfw).1
    refine hideK 5 (fun q3 k3 => ?_)
    refine k3 _ _ ?_
    refine bsplitd (fun h3 => ?_) (fun h3 => ?_)
    · refine k0 _ _ ?_
      refine condT rfl ?_
      refine callV _ (fun w' _ => known50_spec w') ?_
      exact ⟨[], ⟨rfl, rfl⟩, fun w' h => h.pick [0] rfl rfl⟩
    refine hideK 5 (fun q4 k4 => ?_)
    refine k4 _ _ ?_
    refine bsplitd (fun h4 => ?_) (fun h4 => ?_)
    · refine k0 _ _ ?_
      refine condT rfl ?_
      refine callV _ (fun w' _ => known50_spec w') ?_
      exact ⟨[], ⟨rfl, rfl⟩, fun w' h => h.pick [0] rfl rfl⟩
    refine k0 _ _ ?_
    refine bsplitd (fun h5 => ?_) (fun h5 => ?_)
    · refine callV _ (fun w' _ => known50_spec w') ?_
      exact ⟨[], ⟨rfl, rfl⟩, fun w' h => h.pick [0] rfl rfl⟩
    refine NeedD.by_order (cxg _) (.take 0 <| .take 1 <| .take 2 <| .take 4 <| .take 5 <| .take 6 <| .run 3 <| .run 7 <| .take 8 <| .take 9 <| .done) (by kernel_rfl) ?_
    refine callV (.int .i64 Z) (fun w' hm => by rw [hZ]; exact Verify_spec b w' (hT.mono encT_mono (hm 0 _ rfl)) (hS.mono encN_mono (hm 0 _ rfl)) hs (hc.mono (encF_mono _) (hm 0 _ rfl)) (ht.mono (encF_mono _) (hm 0 _ rfl)) (hst.mono (encF_mono _) (hm 0 _ rfl)) (by omega) (by omega) (by omega)) ?_
    refine ⟨(by repeat first | exact trivial | refine ⟨.inl rfl, ?_⟩ | refine ⟨.inr rfl, ?_⟩), ?_⟩
    refine callV (.int .i64 Z) (fun w' hm => by rw [hZ]; exact verify50_spec b w' (hT.mono encT_mono (hm 0 _ rfl)) (hS.mono encN_mono (hm 0 _ rfl)) hs hE (hc.mono (encF_mono _) (hm 0 _ rfl)) (ht.mono (encF_mono _) (hm 0 _ rfl)) (hst.mono (encF_mono _) (hm 0 _ rfl)) (by omega) (by omega) (by omega)) ?_
    refine ⟨(by repeat first | exact trivial | refine ⟨.inl rfl, ?_⟩ | refine ⟨.inr rfl, ?_⟩), ?_⟩
    exact ⟨[], ⟨by rw [decide_eq_true rfl], rfl⟩, fun w' h => h.pick [0] rfl rfl⟩
end
end Go.Proofs.YtnlkffccobdbjaaGreat
