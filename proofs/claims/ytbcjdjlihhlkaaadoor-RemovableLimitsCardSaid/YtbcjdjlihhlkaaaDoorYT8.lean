/- The law RemovableLimits returns true. Its premises are its arguments' form and the table of math/bits. -/
import Derived.Test.YtbcjdjlihhlkaaaDoorXP
import Derived.Test.YtbcjdjlihhlkaaaDoorYT3
namespace Go.Proofs.YtbcjdjlihhlkaaaDoor
open Go Go.RowKit Go.Dw
section
variable {P : Program} {s : List Ch}
theorem qMax {tys : Array TypeId} {ty : Nat} {x y : Int} {q : TV → List Ch → Prop} (h : q (.v (.int .i64 (max x y))) s) : NeedE P s (Builtin.max_ tys ty #[.int .i64 x, .int .i64 y]) q := by
  refine ⟨fun w0 w hok => ⟨_, _, w, s, ?_, hok, Keep.refl s, rfl, h⟩⟩
  simp [Builtin.max_, Builtin.max2, Int.max_def]
  split <;> split <;> (try rfl) <;> (congr 1; omega)
end
set_option maxHeartbeats 1000000 in
set_option maxRecDepth 10000 in
theorem limits24_ok (N : Int) (w : World) (hN : 0 ≤ N ∧ N ≤ 255) (u : Int) (hu : 0 ≤ u ∧ u ≤ 255) (hT : Tab (Hp.whole w)) :
    CallsE Tryd.prog 4 #[.int .u8 N, .int .u8 u] w (RetV w (.bool true)) := by
  obtain ⟨M, hM⟩ : ∃ M, M = N.toNat % 65 := ⟨_, rfl⟩
  have hM64 : M ≤ 64 := by omega
  obtain ⟨h0, hG⟩ := nil_gr hM64
  obtain ⟨k, hk⟩ : ∃ k : Nat, u = k := ⟨u.toNat, by omega⟩
  obtain ⟨Z, hZ⟩ : ∃ T : Nat, 18446744073709551616 < T := ⟨18446744073709551617, by decide⟩
  have hr : ∀ m : Nat, resE M [] m (-1) = 0 := fun m => by
    unfold resE; rw [if_neg (by rw [h0]; decide), if_neg (by omega)]
  obtain ⟨F0, hF0⟩ : ∃ F, F = bfsK (alwF (allN M) 0 (-1)) (hulF M []) Z := ⟨_, rfl⟩
  obtain ⟨F1, hF1⟩ : ∃ F, F = bfsK (alwF (allN M) 1 (-1)) (hulF M []) Z := ⟨_, rfl⟩
  obtain ⟨F2, hF2⟩ : ∃ F, F = bfsK (fun _ => true) (hulF M []) Z := ⟨_, rfl⟩
  have l0 : ∀ t ∈ F0, t < 18446744073709551616 := hF0 ▸ (bfs_fineW (hul_ltW (E := []) hM64) Z).2
  have l1 : ∀ t ∈ F1, t < 18446744073709551616 := hF1 ▸ (bfs_fineW (hul_ltW (E := []) hM64) Z).2
  obtain ⟨a1, a2⟩ := all_len hG hZ
  obtain ⟨b1, b2⟩ := one_len hG hZ
  obtain ⟨c1, c2⟩ := each_len hG hZ
  rw [← hF0] at a1 a2
  rw [← hF1] at b1 b2
  rw [← hF2] at c1 c2
  obtain ⟨A, hA⟩ : ∃ A, A = (srtQ F0 l0).map nod := ⟨_, rfl⟩
  obtain ⟨eA, heA⟩ : ∃ e, e = limE F0 := ⟨_, rfl⟩
  obtain ⟨R, hR⟩ : ∃ A, A = (srtQ F1 l1).map nod := ⟨_, rfl⟩
  obtain ⟨cn, hcn⟩ : ∃ c : Int, c = ((min 1024 F2.length + 1 : Nat) : Int) := ⟨_, rfl⟩
  obtain ⟨P, hP⟩ : ∃ P : Nat, P = 2 ^ M := ⟨_, rfl⟩
  rw [← hP] at a1 c1
  have hP1 : 0 < P := by rw [hP]; exact Nat.two_pow_pos M
  have hP10 : M ≤ 10 → P ≤ 1024 := fun h => by rw [hP]; exact Nat.pow_le_pow_right (n := 2) (by decide) h
  have few : M ≤ 10 → A.length = P - 2 ∧ eA = 0 ∧ cn = (P : Int) := fun h => by
    have := hP10 h
    have e := a1 h
    have e2 := c1 h
    refine ⟨?_, ?_, by rw [hcn, e2]; omega⟩
    · rw [hA, List.length_map]; unfold srtQ; rw [if_pos (by omega), srtW_len]; exact e
    · rw [heA]; unfold limE; rw [if_pos (by omega)]
  have many : 10 < M → A.length = 0 ∧ eA = 6 ∧ cn = 1025 := fun h => by
    have e := a2 h
    have e2 := c2 h
    refine ⟨?_, ?_, by rw [hcn]; omega⟩
    · rw [hA, List.length_map]; unfold srtQ; rw [if_neg (by omega)]; rfl
    · rw [heA]; unfold limE; rw [if_neg (by omega)]
  have he1 : limE F1 = 0 := by unfold limE; rw [if_pos (by omega)]
  have hRl : 1 < M → R.length = M := fun h => by
    rw [hR, List.length_map]; unfold srtQ; rw [if_pos (by omega), srtW_len]; exact b2 h
  obtain ⟨d1, d2⟩ := lea_nil hG (hr k)
  obtain ⟨fd, hfd⟩ : ∃ f, f = (leaR M [] k (-1)).2 := ⟨_, rfl⟩
  obtain ⟨B, hB⟩ : ∃ B, B = nod (leaR M [] k (-1)).1 := ⟨_, rfl⟩
  rw [← hfd] at d1
  have hB0 : 1 < M → B = [0] := fun h => by rw [hB, d2 h]; decide
  have nl : ∀ w : World, Sl (encF fE) 2 (Hp.whole w) none 0 0 [] := fun w => Sl.nil _ _ _ _ _
  have kA : ∀ w : World, Tab (Hp.whole w) → CallsE Tryd.prog 12 #[gv M none 0 0, .int .i64 0, .int .i64 (-1)] w (RetR w A eA) := fun w hT => by
    rw [hA, heA]; exact CandW_spec M 0 (-1) w (nl w) hG (hr 0) hT hZ hF0 l0
  have kR : ∀ w : World, Tab (Hp.whole w) → CallsE Tryd.prog 12 #[gv M none 0 0, .int .i64 1, .int .i64 (-1)] w (RetR w R 0) := fun w hT => by
    rw [hR, ← he1]; exact CandW_spec M 1 (-1) w (nl w) hG (hr 1) hT hZ hF1 l1
  have kN : ∀ w : World, CallsE Tryd.prog 20 #[gv M none 0 0] w (RetV w (.tuple #[.int .i64 cn, .int .i64 0])) := fun w => by
    rw [hcn]; exact CountW_spec M w (nl w) hG h0 hZ hF2
  have kL : ∀ w : World, Tab (Hp.whole w) → CallsE Tryd.prog 13 #[gv M none 0 0, .int .i64 k, .int .i64 (-1)] w (Ret w fun v cs => ∃ o : Dw.Os, v = .tuple #[o.v, .bool fd, .int .i64 0] ∧ cs = [.hp o.h] ∧ OwnO fI 3 1 o B) := fun w hT => by
    have := Least_spec M k (-1) w (nl w) hT
    rw [hr k] at this
    rw [hfd, hB]; exact this
  clear hF0 hF1 hF2 hA heA hR hcn hfd hB a1 a2 b1 b2 c1 c2 l0 l1 he1
  refine enter (X := cx 115) (cxg _) (args := [.int .u8 N, .int .u8 u]) [.tmp 4] Tryd.func4 rfl rfl rfl rfl rfl ?_
  refine callV _ (fun w' hm => known24_spec w' (hT.mono (hm 0 _ rfl))) ?_
  refine qRemN N.toNat 65 (by omega) rfl (by decide) ?_
  rw [← hM]
  refine nw (by omega) (by omega) ?_
  intro b5
  refine hideQ (fun _ h => h _ _ ?_)
  refine normS [.hp (Hp.whole w), .box b5 [.int .i64 M, .slice none 0 0] 28] rfl ?_
  refine call (fun w' hm => kA w' (hT.mono (hm 0 _ rfl))) ?_
  rintro _ _ ⟨aA, nA, cA, gA, rfl, rfl, sA⟩
  have lA := sA.len
  refine hideQ (fun _ h => h _ _ ?_)
  refine normS [.hp (Hp.whole w), .box b5 [.int .i64 M, .slice none 0 0] 28, .hp gA] rfl ?_
  refine call (fun w' hm => kR w' (hT.mono (hm 0 _ rfl))) ?_
  rintro _ _ ⟨aR, nR, cR, gR, rfl, rfl, sR⟩
  have lR := sR.len
  refine hideQ (fun _ h => h _ _ ?_)
  refine normS [.hp (Hp.whole w), .box b5 [.int .i64 M, .slice none 0 0] 28, .hp gA, .hp gR] rfl ?_
  refine callV _ (fun w' hm => kN w') ?_
  refine hideQ (fun _ h => h _ _ ?_)
  refine normS [.hp (Hp.whole w), .box b5 [.int .i64 M, .slice none 0 0] 28, .hp gA, .hp gR] rfl ?_
  refine nw (by omega) (by omega) ?_
  rw [hk]
  refine call (fun w' hm => kL w' (hT.mono (hm 0 _ rfl))) ?_
  rintro _ _ ⟨oB, rfl, rfl, hoB⟩
  have sB := OwnO.sl (f := fI) (fun _ => rfl) (by decide) hoB
  have lB := sB.len
  refine hideQ (fun _ h => h _ _ ?_)
  refine normS [.hp (Hp.whole w), .box b5 [.int .i64 M, .slice none 0 0] 28, .hp gA, .hp gR, .hp oB.h] rfl ?_
  clear kA kR kN kL
  by_cases hM1 : 1 < M
  · obtain rfl : fd = true := by rw [d1]; exact decide_eq_true hM1
    have hRM := hRl hM1
    obtain rfl := hB0 hM1
    have lB1 : oB.n = 1 := lB
    refine hideQ (fun q' hq' => ?_)
    refine qNeB24 ?_
    refine bfalse (by rw [decide_eq_true (show (M : Int) > 1 by omega)]; rfl) ?_
    intro b65
    refine callV _ (fun w' hm => sameInts_spec w' (sB.mono (encF_mono _) (hm 4 _ rfl)) (Sl.box (f := fI) (fun _ => rfl) (by decide) (hm 5 _ rfl) [0] rfl rfl (by simp)) (by omega)) ?_
    refine dfalse (by omega) ?_
    refine hq' _ _ ?_
    refine normS [.hp (Hp.whole w), .box b5 [.int .i64 M, .slice none 0 0] 28, .hp gA, .hp gR, .hp oB.h, .box b65 [.int .i64 0] 3] rfl ?_
    refine bsplitd (fun h10 => ?_) (fun h10 => ?_)
    · obtain ⟨q1, q2, q3⟩ := many (by omega)
      refine dtrue (by omega) ?_
      refine dtrue q2 ?_
      exact ⟨[], ⟨by rw [decide_eq_true q3], rfl⟩, fun w' h => h.pick [0] rfl rfl⟩
    · obtain ⟨q1, q2, q3⟩ := few (by omega)
      have hPb := hP10 (by omega)
      refine qShlI M rfl rfl (by omega) ?_
      rw [← hP]
      refine nw (by omega) (by omega) ?_
      refine qMax ?_
      refine dtrue (by omega) ?_
      refine dtrue q2 ?_
      refine qShlI M rfl rfl (by omega) ?_
      rw [← hP]
      exact ⟨[], ⟨by rw [decide_eq_true q3], rfl⟩, fun w' h => h.pick [0] rfl rfl⟩
  · obtain rfl : fd = false := by rw [d1]; exact decide_eq_false hM1
    refine hideQ (fun q' hq' => ?_)
    refine qNeB24 ?_
    refine bfalse (by rw [decide_eq_false (show ¬ (M : Int) > 1 by omega)]; rfl) ?_
    refine bsplitd (fun h1 => ?_) (fun h1 => ?_)
    · refine hq' _ _ ?_
      refine dfalse (by omega) ?_
      refine normS [.hp (Hp.whole w), .box b5 [.int .i64 M, .slice none 0 0] 28, .hp gA, .hp gR, .hp oB.h] rfl ?_
      refine bsplitd (fun h10 => ?_) (fun h10 => ?_)
      · obtain ⟨q1, q2, q3⟩ := many (by omega)
        refine dtrue (by omega) ?_
        refine dtrue q2 ?_
        exact ⟨[], ⟨by rw [decide_eq_true q3], rfl⟩, fun w' h => h.pick [0] rfl rfl⟩
      · obtain ⟨q1, q2, q3⟩ := few (by omega)
        have hPb := hP10 (by omega)
        refine qShlI M rfl rfl (by omega) ?_
        rw [← hP]
        refine nw (by omega) (by omega) ?_
        refine qMax ?_
        refine dtrue (by omega) ?_
        refine dtrue q2 ?_
        refine qShlI M rfl rfl (by omega) ?_
        rw [← hP]
        exact ⟨[], ⟨by rw [decide_eq_true q3], rfl⟩, fun w' h => h.pick [0] rfl rfl⟩
    · refine hq' _ _ ?_
      refine normS [.hp (Hp.whole w), .box b5 [.int .i64 M, .slice none 0 0] 28, .hp gA, .hp gR, .hp oB.h] rfl ?_
      refine bsplitd (fun h10 => ?_) (fun h10 => ?_)
      · obtain ⟨q1, q2, q3⟩ := many (by omega)
        refine dtrue (by omega) ?_
        refine dtrue q2 ?_
        exact ⟨[], ⟨by rw [decide_eq_true q3], rfl⟩, fun w' h => h.pick [0] rfl rfl⟩
      · obtain ⟨q1, q2, q3⟩ := few (by omega)
        have hPb := hP10 (by omega)
        refine qShlI M rfl rfl (by omega) ?_
        rw [← hP]
        refine nw (by omega) (by omega) ?_
        refine qMax ?_
        refine dtrue (by omega) ?_
        refine dtrue q2 ?_
        refine qShlI M rfl rfl (by omega) ?_
        rw [← hP]
        exact ⟨[], ⟨by rw [decide_eq_true q3], rfl⟩, fun w' h => h.pick [0] rfl rfl⟩
end Go.Proofs.YtbcjdjlihhlkaaaDoor
