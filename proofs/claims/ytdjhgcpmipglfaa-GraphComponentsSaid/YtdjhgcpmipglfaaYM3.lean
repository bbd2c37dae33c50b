/- The law GraphPaths returns true. Its premises are its arguments' form. -/
import Derived.Test.YtdjhgcpmipglfaaXE
import Derived.Test.YtdjhgcpmipglfaaYP2
import Derived.Test.YtdjhgcpmipglfaaYGn
namespace Go.Dw
open Go Go.RowKit
theorem qRem {P : Program} {s : List Ch} {ty : Nat} {k : IntKind} {x y : Int} (hx : 0 ≤ x) (hy : 0 < y) {q : TV → Prop} (h : q (.v (.int k (x % y)))) : NeedQ P s (binOp .rem ty (.int k x) (.int k y)) q := by
  refine ⟨_, fun w _ => ?_, h⟩
  have h0 : ¬ y = 0 := by omega
  simp [binOp, Op.intDiv, h0, Int.tmod_eq_emod_of_nonneg hx]
end Go.Dw
namespace Go.Proofs.Ytdjhgcpmipglfaa
open Go Go.RowKit Go.Dw
theorem fineF_ok {N : Int} {E : List (Int × Int)} (h : fineF N E = true) : ∃ M : Nat, N = M ∧ M ≤ 8 ∧ E.length ≤ 24 ∧ Gr M E ∧ Srt E ∧ checkF M E = 0 := by
  unfold fineF fewF at h
  simp only [Bool.and_eq_true, decide_eq_true_eq, Bool.or_eq_true] at h
  obtain ⟨M, rfl, hG, hs⟩ := checkF_ok h.2
  have := hG.hN
  exact ⟨M, rfl, by omega, h.1.1, hG, sortedF_srt hs, h.2⟩
theorem bool_and {p q : Bool} (h : p = true) (k : q = true) : (p && q) = true := by rw [h, k]; rfl
set_option maxRecDepth 10000 in
theorem paths_ok {a : Option Addr} {n c : Nat} {E : List (Int × Int)} (N : Int) (w : World) (hL : Sl (encF fE) 2 (Hp.whole w) a n c E) (u : Int) (hu : 0 ≤ u ∧ u ≤ 255) (v : Int) (hv : 0 ≤ v ∧ v ≤ 255) :
    CallsE Try.prog 4 #[gv N a n c, .int .u8 u, .int .u8 v] w (RetV w (.bool true)) := by
  have hlen := hL.len
  refine enter (X := cx 102) (cxg _) (args := [.agg #[.int .i64 N, .slice a n c], .int .u8 u, .int .u8 v]) [.tmp 6] Try.func4 rfl rfl rfl rfl rfl ?_
  intro b1
  refine callV _ (fun w' _ => known_spec w') ?_
  refine callV _ (fun w' hm => fine_spec N w' (hL.mono (encF_mono _) (hm 0 _ rfl))) ?_
  refine bsplit (fun h1 => ?_) (fun h1 => ?_)
  · refine callV _ (fun w' _ => known_spec w') ?_
    exact ⟨[], ⟨rfl, rfl⟩, fun w' h => h.pick [0] rfl rfl⟩
  rw [Bool.not_eq_false'] at h1
  obtain ⟨M, rfl, hM8, hEl, hG, hs, h0⟩ := fineF_ok h1
  refine bsplitd (fun hz => ?_) (fun hz => ?_)
  · refine callV _ (fun w' _ => known_spec w') ?_
    exact ⟨[], ⟨rfl, rfl⟩, fun w' h => h.pick [0] rfl rfl⟩
  have hx : 0 ≤ u % (M : Int) ∧ u % (M : Int) < M := ⟨Int.emod_nonneg _ (by omega), Int.emod_lt_of_pos _ (by omega)⟩
  have hy : 0 ≤ v % (M : Int) ∧ v % (M : Int) < M := ⟨Int.emod_nonneg _ (by omega), Int.emod_lt_of_pos _ (by omega)⟩
  have sx : singleF M E [u % (M : Int)] = 0 := by rw [single_fine h0 hx]; rfl
  have sy : singleF M E [v % (M : Int)] = 0 := by rw [single_fine h0 hy]; rfl
  have sxy : singleF M E [u % (M : Int), v % (M : Int)] = 0 := by rw [single_fine h0 hx, sy]
  refine NeedD.by_order (cxg _) (.take 0 <| .take 1 <| .take 2 <| .take 3 <| .take 4 <| .take 5 <| .take 6 <| .take 7 <| .take 8 <| .take 9 <| .take 10 <| .take 11 <| .done) (by kernel_rfl) ?_
  refine nw (by omega) (by omega) ?_
  refine qRem (by omega) (by omega) ?_
  refine nw (by omega) (by omega) ?_
  refine qRem (by omega) (by omega) ?_
  obtain ⟨x, hxx⟩ : ∃ x, x = u % (M : Int) := ⟨_, rfl⟩
  obtain ⟨y, hyy⟩ : ∃ y, y = v % (M : Int) := ⟨_, rfl⟩
  rw [← hxx] at hx sx sxy
  rw [← hyy] at hy sy sxy
  obtain ⟨e, he⟩ : ∃ e, e = rpe M E x y := ⟨_, rfl⟩
  obtain ⟨z1, hz1⟩ : ∃ z, z = singleF M E [x] := ⟨_, rfl⟩
  obtain ⟨z2, hz2⟩ : ∃ z, z = singleF M E [y] := ⟨_, rfl⟩
  obtain ⟨L, hLd⟩ : ∃ L, L = pathF M E x y := ⟨_, rfl⟩
  obtain ⟨T, hTd⟩ : ∃ T, T = (List.range M).map fun v : Nat => lastBut (rpa M E x v) := ⟨_, rfl⟩
  obtain ⟨B, hBd⟩ : ∃ B, B = (List.range M).map fun v : Nat => second (rpa M E v y) := ⟨_, rfl⟩
  have kP : ∀ {a : Option Addr} {n c : Nat} (w : World), Sl (encF fE) 2 (Hp.whole w) a n c E → CallsE Try.prog 23 #[gv M a n c, .int .i64 (u % (M : Int)), .int .i64 (v % (M : Int))] w (RetI w L e) := fun w h => by
    have := Path_spec M x y w h
    rw [← hxx, ← hyy, hLd, he]
    unfold patR patC at this
    rw [if_pos sxy, if_pos sxy] at this
    exact this
  have kR : ∀ {a : Option Addr} {n c : Nat} (w : World), Sl (encF fE) 2 (Hp.whole w) a n c E → CallsE Try.prog 25 #[gv M a n c, .int .i64 (u % (M : Int)), .int .i64 (v % (M : Int))] w (RetI w L e) := fun w h => by
    have := RPath_spec M x y w h hG hx hy
    rw [rpa_path hG hs hx] at this
    rw [← hxx, ← hyy, hLd, he]
    exact this
  have kT : ∀ {a : Option Addr} {n c : Nat} (w : World), Sl (encF fE) 2 (Hp.whole w) a n c E → CallsE Try.prog 27 #[gv M a n c, .int .i64 (u % (M : Int))] w (RetI w T z1) := fun w h => by
    have := Tree_spec M x w h
    unfold treeR at this
    rw [if_neg (by rw [sx]; simp), Int.toNat_natCast, tree_eq hG hs hx] at this
    rw [← hxx, hTd, hz1]
    exact this
  have kB : ∀ {a : Option Addr} {n c : Nat} (w : World), Sl (encF fE) 2 (Hp.whole w) a n c E → CallsE Try.prog 28 #[gv M a n c, .int .i64 (v % (M : Int))] w (RetI w B z2) := fun w h => by
    have := Back_spec M y w h
    unfold treeR at this
    rw [if_neg (by rw [sy]; simp), Int.toNat_natCast, back_eq hG hs hy] at this
    rw [← hyy, hBd, hz2]
    exact this
  have kRT : ∀ {a : Option Addr} {n c : Nat} (w : World), Sl (encF fE) 2 (Hp.whole w) a n c E → CallsE Try.prog 30 #[gv M a n c, .int .i64 (u % (M : Int))] w (Ret w fun v cs => ∃ o : Dw.Os, v = o.v ∧ cs = [.hp o.h] ∧ OwnO fI 3 1 o T) := fun w h => by
    have := RTree_spec M x w h hG hx
    rw [← hxx, hTd]
    exact this
  have kRB : ∀ {a : Option Addr} {n c : Nat} (w : World), Sl (encF fE) 2 (Hp.whole w) a n c E → CallsE Try.prog 31 #[gv M a n c, .int .i64 (v % (M : Int))] w (Ret w fun v cs => ∃ o : Dw.Os, v = o.v ∧ cs = [.hp o.h] ∧ OwnO fI 3 1 o B) := fun w h => by
    have := RBack_spec M y w h hG hy
    rw [← hyy, hBd]
    exact this
  have lT : T.length ≤ 8 := by rw [hTd]; simp; omega
  have lB : B.length ≤ 8 := by rw [hBd]; simp; omega
  have lL : L.length ≤ 64 := by rw [hLd]; exact pathF_len hG.hN
  have q1 : z1 = 0 := by rw [hz1, sx]
  have q2 : z2 = 0 := by rw [hz2, sy]
  clear sx sy sxy hz1 hz2 hLd hTd hBd he hx hy hxx hyy
  refine call (fun w' hm => copied_spec M w' (hL.mono (encF_mono _) (hm 0 _ rfl)) (by omega)) ?_
  rintro _ _ ⟨oC1, rfl, rfl, hoC1⟩
  have soC1 := OwnO.sl (f := fE) (fun _ => rfl) (by decide) hoC1
  refine call (fun w' hm => kP w' (soC1.mono (encF_mono _) (hm 2 _ rfl))) ?_
  rintro _ _ ⟨oP, rfl, rfl, hoP⟩
  refine hideQ (fun _ h => h _ _ ?_)
  refine normS [.hp (Hp.whole w), .box b1 [.int .i64 M, .slice a n c] 26, .hp oC1.h, .hp oP.h] rfl ?_
  refine call (fun w' hm => plain_spec M w' (hL.mono (encF_mono _) (hm 0 _ rfl)) (by omega)) ?_
  rintro _ _ ⟨oQ1, rfl, rfl, hoQ1⟩
  have soQ1 := OwnO.sl (f := fE) (fun _ => rfl) (by decide) hoQ1
  refine call (fun w' hm => kR w' (soQ1.mono (encF_mono _) (hm 4 _ rfl))) ?_
  rintro _ _ ⟨oR, rfl, rfl, hoR⟩
  refine hideQ (fun _ h => h _ _ ?_)
  refine normS [.hp (Hp.whole w), .box b1 [.int .i64 M, .slice a n c] 26, .hp oC1.h, .hp oP.h, .hp oQ1.h, .hp oR.h] rfl ?_
  refine call (fun w' hm => copied_spec M w' (hL.mono (encF_mono _) (hm 0 _ rfl)) (by omega)) ?_
  rintro _ _ ⟨oC2, rfl, rfl, hoC2⟩
  have soC2 := OwnO.sl (f := fE) (fun _ => rfl) (by decide) hoC2
  refine call (fun w' hm => kT w' (soC2.mono (encF_mono _) (hm 6 _ rfl))) ?_
  rintro _ _ ⟨oT, rfl, rfl, hoT⟩
  refine hideQ (fun _ h => h _ _ ?_)
  refine normS [.hp (Hp.whole w), .box b1 [.int .i64 M, .slice a n c] 26, .hp oC1.h, .hp oP.h, .hp oQ1.h, .hp oR.h, .hp oC2.h, .hp oT.h] rfl ?_
  refine call (fun w' hm => copied_spec M w' (hL.mono (encF_mono _) (hm 0 _ rfl)) (by omega)) ?_
  rintro _ _ ⟨oC3, rfl, rfl, hoC3⟩
  have soC3 := OwnO.sl (f := fE) (fun _ => rfl) (by decide) hoC3
  refine call (fun w' hm => kB w' (soC3.mono (encF_mono _) (hm 8 _ rfl))) ?_
  rintro _ _ ⟨oB, rfl, rfl, hoB⟩
  have sP := OwnO.sl (f := fI) (fun _ => rfl) (by decide) hoP
  have sR := OwnO.sl (f := fI) (fun _ => rfl) (by decide) hoR
  have sT := OwnO.sl (f := fI) (fun _ => rfl) (by decide) hoT
  have sB := OwnO.sl (f := fI) (fun _ => rfl) (by decide) hoB
  have nP := hoP.len
  have nT := hoT.len
  have nB := hoB.len
  refine hideQ (fun _ h => h _ _ ?_)
  refine normS [.hp (Hp.whole w), .box b1 [.int .i64 M, .slice a n c] 26, .hp oC1.h, .hp oP.h, .hp oQ1.h, .hp oR.h, .hp oC2.h, .hp oT.h, .hp oC3.h, .hp oB.h] rfl ?_
  refine hideQ (fun q' hq' => ?_)
  refine hideK 4 (fun qq k1 => ?_)
  refine k1 _ _ ?_
  refine hideK 5 (fun qq k1 => ?_)
  refine dtrue rfl ?_
  refine callV _ (fun w' hm => equalInts_spec w' (sP.mono (encF_mono _) (hm 3 _ rfl)) (sR.mono (encF_mono _) (hm 5 _ rfl)) (by omega)) ?_
  refine k1 _ _ ?_
  refine hideK 4 (fun qq k1 => ?_)
  refine dtrue rfl ?_
  refine k1 _ _ ?_
  refine hideK 4 (fun qq k1 => ?_)
  refine dtrue q1 ?_
  refine k1 _ _ ?_
  refine hideK 8 (fun qq k1 => ?_)
  refine dtrue q2 ?_
  refine call (fun w' hm => plain_spec M w' (hL.mono (encF_mono _) (hm 0 _ rfl)) (by omega)) ?_
  rintro _ _ ⟨oQ2, rfl, rfl, hoQ2⟩
  have soQ2 := OwnO.sl (f := fE) (fun _ => rfl) (by decide) hoQ2
  refine call (fun w' hm => kRT w' (soQ2.mono (encF_mono _) (hm 10 _ rfl))) ?_
  rintro _ _ ⟨oRT, rfl, rfl, hoRT⟩
  have soRT := OwnO.sl (f := fI) (fun _ => rfl) (by decide) hoRT
  refine callV _ (fun w' hm => equalInts_spec w' (sT.mono (encF_mono _) (hm 7 _ rfl)) (soRT.mono (encF_mono _) (hm 11 _ rfl)) (by omega)) ?_
  refine k1 _ _ ?_
  refine normS [.hp (Hp.whole w), .box b1 [.int .i64 M, .slice a n c] 26, .hp oC1.h, .hp oP.h, .hp oQ1.h, .hp oR.h, .hp oC2.h, .hp oT.h, .hp oC3.h, .hp oB.h, .hp oQ2.h, .hp oRT.h] rfl ?_
  refine hideK 8 (fun qq k1 => ?_)
  refine dtrue rfl ?_
  refine call (fun w' hm => plain_spec M w' (hL.mono (encF_mono _) (hm 0 _ rfl)) (by omega)) ?_
  rintro _ _ ⟨oQ3, rfl, rfl, hoQ3⟩
  have soQ3 := OwnO.sl (f := fE) (fun _ => rfl) (by decide) hoQ3
  refine call (fun w' hm => kRB w' (soQ3.mono (encF_mono _) (hm 12 _ rfl))) ?_
  rintro _ _ ⟨oRB, rfl, rfl, hoRB⟩
  have soRB := OwnO.sl (f := fI) (fun _ => rfl) (by decide) hoRB
  refine callV _ (fun w' hm => equalInts_spec w' (sB.mono (encF_mono _) (hm 9 _ rfl)) (soRB.mono (encF_mono _) (hm 13 _ rfl)) (by omega)) ?_
  refine k1 _ _ ?_
  refine hq' _ _ ?_
  exact ⟨[], ⟨by rw [decide_eq_true rfl], rfl⟩, fun w' h => h.pick [0] rfl rfl⟩
end Go.Proofs.Ytdjhgcpmipglfaa
