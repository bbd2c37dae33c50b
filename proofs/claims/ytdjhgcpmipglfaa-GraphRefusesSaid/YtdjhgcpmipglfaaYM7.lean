/- The law GraphRefuses returns true. Its premises are its arguments' form. -/
import Derived.Test.YtdjhgcpmipglfaaYM3
import Derived.Test.YtdjhgcpmipglfaaYLc
namespace Go.Dw
open Go Go.RowKit
theorem hideD {X : Ctx} {ops : List Oper} {Q : Tm → List Ch → Prop} {t : Tm} {s : List Ch} (h : ∀ q' : Tm → List Ch → Prop, (∀ t s, Q t s → q' t s) → NeedD X ops q' t s) : NeedD X ops Q t s := h Q fun _ _ h => h
theorem normD {X : Ctx} {ops : List Oper} {Q : Tm → List Ch → Prop} {t : Tm} {s : List Ch} (s' : List Ch) (hs : s = s') (h : NeedD X ops Q t s') : NeedD X ops Q t s := by subst hs; exact h
end Go.Dw
namespace Go.Proofs.Ytdjhgcpmipglfaa
open Go Go.RowKit Go.Dw
theorem ready_single {N x : Int} {E : List (Int × Int)} : readyF N E [x] = if checkF N E ≠ 0 then checkF N E else if beyondF N x then 2 else 0 := by
  unfold readyF
  have : ascF [x] = true := by unfold ascF; rfl
  rw [this]
  simp
theorem sing_eq {N x y : Int} {E : List (Int × Int)} : singleF N E [x, y] = if checkF N E ≠ 0 then checkF N E else if beyondF N x || beyondF N y then 2 else 0 := by
  simp only [singleF]
  rw [ready_single, ready_single]
  by_cases h : checkF N E ≠ 0
  · rw [if_pos h, if_pos h, if_pos h]
  · rw [if_neg h, if_neg h, if_neg h]
    cases beyondF N x <;> cases beyondF N y <;> simp
theorem sing1_eq {N x : Int} {E : List (Int × Int)} : singleF N E [x] = if checkF N E ≠ 0 then checkF N E else if beyondF N x then 2 else 0 := by
  simp only [singleF]
  rw [ready_single]
  by_cases h : checkF N E ≠ 0
  · rw [if_pos h, if_pos h]
  · rw [if_neg h]
    cases beyondF N x <;> simp
set_option maxRecDepth 10000 in
set_option maxHeartbeats 1000000 in
theorem refuses_ok {a a1 : Option Addr} {n c n1 c1 : Nat} {E : List (Int × Int)} {L : List Int} (N : Int) (w : World) (hL : Sl (encF fE) 2 (Hp.whole w) a n c E) (hM : Sl (encF fI) 1 (Hp.whole w) a1 n1 c1 L) (x y : Int) :
    CallsE Try.prog 12 #[gv N a n c, .slice a1 n1 c1, .agg #[.int .i64 x, .int .i64 y]] w (RetV w (.bool true)) := by
  have hlen := hL.len
  have hml := hM.len
  refine enter (X := cx 166) (cxg _) (args := [.agg #[.int .i64 N, .slice a n c], .slice a1 n1 c1, .agg #[.int .i64 x, .int .i64 y]]) [.tmp 6] Try.func12 rfl rfl rfl rfl rfl ?_
  intro b3 b5
  refine callV _ (fun w' _ => known_spec w') ?_
  refine callV _ (fun w' hm => few_spec N w' (hL.mono (encF_mono _) (hm 0 _ rfl))) ?_
  refine bsplit (fun h1 => ?_) (fun h1 => ?_)
  · refine callV _ (fun w' _ => known_spec w') ?_
    exact ⟨[], ⟨rfl, rfl⟩, fun w' h => h.pick [0] rfl rfl⟩
  refine bsplitd (fun h2 => ?_) (fun h2 => ?_)
  · refine callV _ (fun w' _ => known_spec w') ?_
    exact ⟨[], ⟨rfl, rfl⟩, fun w' h => h.pick [0] rfl rfl⟩
  have hl : E.length ≤ 24 := by
    unfold fewF at h1
    simp only [Bool.not_eq_false', Bool.and_eq_true, decide_eq_true_eq] at h1
    exact h1.1
  obtain ⟨e0, he0⟩ : ∃ e : Int, e = checkF N E := ⟨_, rfl⟩
  obtain ⟨z, hz⟩ : ∃ e : Int, e = readyF N E L := ⟨_, rfl⟩
  obtain ⟨p, hp⟩ : ∃ e : Int, e = patC N E x y := ⟨_, rfl⟩
  obtain ⟨j1, hj1⟩ : ∃ e : Int, e = singleF N E [x] := ⟨_, rfl⟩
  obtain ⟨j2, hj2⟩ : ∃ e : Int, e = singleF N E [y] := ⟨_, rfl⟩
  obtain ⟨A, hA⟩ : ∃ A, A = reaR N E L := ⟨_, rfl⟩
  obtain ⟨B, hB⟩ : ∃ B, B = (indR N E L).2.1 := ⟨_, rfl⟩
  obtain ⟨m, hm0⟩ : ∃ B, B = (indR N E L).1 := ⟨_, rfl⟩
  obtain ⟨P, hP⟩ : ∃ B, B = patR N E x y := ⟨_, rfl⟩
  have zz : z ≠ 0 → A = [] ∧ B = [] ∧ m = 0 := fun h => by
    rw [hz] at h
    have e : indR N E L = (0, [], readyF N E L) := if_neg h
    exact ⟨by rw [hA]; exact if_neg h, by rw [hB, e], by rw [hm0, e]⟩
  have sg : singleF N E [x, y] = if e0 ≠ 0 then e0 else if beyondF N x || beyondF N y then 2 else 0 := by rw [he0]; exact sing_eq
  have pw : ∀ v : Int, v ≠ 0 → singleF N E [x, y] = v → p = v ∧ P = [] := fun v hv h => by
    have hn : ¬ singleF N E [x, y] = 0 := by rw [h]; exact hv
    exact ⟨by rw [hp]; unfold patC; rw [if_neg hn, h], by rw [hP]; unfold patR; rw [if_neg hn]⟩
  have pz : singleF N E [x, y] = 0 → p = 0 ∨ p = 10 := fun h => by
    rw [hp]; unfold patC; rw [if_pos h]
    cases dst N.toNat E x y with
    | none => exact .inr rfl
    | some _ => exact .inl rfl
  have jz : e0 = 0 → beyondF N x = false → beyondF N y = false → j1 = 0 ∧ j2 = 0 := fun h hx hy => by
    rw [he0] at h
    exact ⟨by rw [hj1, sing1_eq, if_neg (by rw [h]; simp), hx]; rfl, by rw [hj2, sing1_eq, if_neg (by rw [h]; simp), hy]; rfl⟩
  have kN : ∀ {a a1 : Option Addr} {n c n1 c1 : Nat} (w : World), e0 = 0 → Sl (encF fI) 1 (Hp.whole w) a1 n1 c1 L → CallsE Try.prog 68 #[gv N a n c, .slice a1 n1 c1] w (RetV w (.int .i64 z)) := fun w h0 h => by
    rw [hz, ready_nod (by rw [← he0]; exact h0)]; exact RNodes_spec N w h (by omega)
  have kA : ∀ {a a1 : Option Addr} {n c n1 c1 : Nat} (w : World), Sl (encF fE) 2 (Hp.whole w) a n c E → Sl (encF fI) 1 (Hp.whole w) a1 n1 c1 L → CallsE Try.prog 37 #[gv N a n c, .slice a1 n1 c1] w (RetI w A z) := fun w h h' => by
    rw [hA, hz]; exact Reach_spec N w h h' (by omega)
  obtain ⟨cb, hcb⟩ : ∃ b, b = cloR N E L := ⟨_, rfl⟩
  have kC : ∀ {a a1 : Option Addr} {n c n1 c1 : Nat} (w : World), Sl (encF fE) 2 (Hp.whole w) a n c E → Sl (encF fI) 1 (Hp.whole w) a1 n1 c1 L → CallsE Try.prog 38 #[gv N a n c, .slice a1 n1 c1] w (RetV w (.tuple #[.bool cb, .int .i64 z])) := fun w h h' => by
    rw [hcb, hz]; exact Closed_spec N w h h' (by omega)
  have hi3 : (indR N E L).2.2 = z := by
    rw [hz]; unfold indR
    by_cases h : readyF N E L = 0
    · rw [if_pos h]; exact h.symm
    · rw [if_neg h]
  have kB : ∀ {a a1 : Option Addr} {n c n1 c1 : Nat} (w : World), Sl (encF fE) 2 (Hp.whole w) a n c E → Sl (encF fI) 1 (Hp.whole w) a1 n1 c1 L → CallsE Try.prog 54 #[gv N a n c, .slice a1 n1 c1] w (RetG w (m, B, z)) := fun w h h' => by
    have := Induced_spec N w h h' (by omega)
    rw [hm0, hB, ← hi3]; exact this
  have kP : ∀ {a : Option Addr} {n c : Nat} (w : World), Sl (encF fE) 2 (Hp.whole w) a n c E → CallsE Try.prog 23 #[gv N a n c, .int .i64 x, .int .i64 y] w (RetI w P p) := fun w h => by
    rw [hP, hp]; exact Path_spec N x y w h
  have kT : ∀ {a : Option Addr} {n c : Nat} (w : World), Sl (encF fE) 2 (Hp.whole w) a n c E → CallsE Try.prog 27 #[gv N a n c, .int .i64 x] w (RetI w (treeR N E x fun k => lastBut (pathF N.toNat E x k)) j1) := fun w h => by
    rw [hj1]; exact Tree_spec N x w h
  have kK : ∀ {a : Option Addr} {n c : Nat} (w : World), Sl (encF fE) 2 (Hp.whole w) a n c E → CallsE Try.prog 28 #[gv N a n c, .int .i64 y] w (RetI w (treeR N E y fun k => second (pathF N.toNat E k y)) j2) := fun w h => by
    rw [hj2]; exact Back_spec N y w h
  have kE : ∀ {a : Option Addr} {n c : Nat} (w : World), Sl (encF fE) 2 (Hp.whole w) a n c E → CallsE Try.prog 67 #[gv N a n c] w (RetV w (.int .i64 e0)) := fun w h => by
    rw [he0]; exact RCheck_spec N w h
  have lB : B.length ≤ 24 := by
    rw [hB]; unfold indR
    by_cases h : readyF N E L = 0
    · rw [if_pos h]; have := indF_len E L; dsimp only; omega
    · rw [if_neg h]; simp
  have lA : z = 0 ∨ A.length = 0 := by
    by_cases h : z = 0
    · exact .inl h
    · rw [(zz h).1]; exact .inr rfl
  have hze : e0 ≠ 0 → z = e0 := fun h => by
    rw [hz]; unfold readyF; rw [he0] at h; rw [if_pos h, he0]
  clear hA hB hm0 hP hp hj1 hj2 hcb hi3 hz
  refine call (fun w' hm => plain_spec N w' (hL.mono (encF_mono _) (hm 0 _ rfl)) (by omega)) ?_
  rintro _ _ ⟨oQ1, rfl, rfl, hoQ1⟩
  have sQ1 := OwnO.sl (f := fE) (fun _ => rfl) (by decide) hoQ1
  refine callV _ (fun w' hm => kE w' (sQ1.mono (encF_mono _) (hm 3 _ rfl))) ?_
  refine hideQ (fun _ h => h _ _ ?_)
  refine normS [.hp (Hp.whole w), .box b3 [.int .i64 N, .slice a n c] 26, .box b5 [.int .i64 x, .int .i64 y] 85, .hp oQ1.h] rfl ?_
  refine bsplitd (fun h0 => ?_) (fun h0 => ?_)
  · refine normS [.hp (Hp.whole w), .box b3 [.int .i64 N, .slice a n c] 26, .box b5 [.int .i64 x, .int .i64 y] 85, .hp oQ1.h] rfl ?_
    refine call (fun w' hm => plain_spec N w' (hL.mono (encF_mono _) (hm 0 _ rfl)) (by omega)) ?_
    rintro _ _ ⟨oQ2, rfl, rfl, hoQ2⟩
    have sQ2 := OwnO.sl (f := fE) (fun _ => rfl) (by decide) hoQ2
    refine callV _ (fun w' hm => kN w' h0 (hM.mono (encF_mono _) (hm 0 _ rfl))) ?_
    refine normD [.hp (Hp.whole w), .box b3 [.int .i64 N, .slice a n c] 26, .box b5 [.int .i64 x, .int .i64 y] 85, .hp oQ1.h, .hp oQ2.h] rfl ?_
    refine hideD (fun q' hq' => ?_)
    refine NeedD.by_order (cxg _) (.take 0 <| .take 1 <| .run 2 <| .run 3 <| .take 4 <| .take 5 <| .take 6 <| .take 7 <| .take 8 <| .done) (by kernel_rfl) ?_
    refine call (fun w' hm => cloneInts_spec w' (hM.mono (encF_mono _) (hm 0 _ rfl)) (by omega)) ?_
    rintro _ _ ⟨oC3, rfl, rfl, hoC3⟩
    have sC3 := OwnO.sl (f := fI) (fun _ => rfl) (by decide) hoC3
    refine ⟨(by repeat first | exact trivial | refine ⟨.inl rfl, ?_⟩ | refine ⟨.inr rfl, ?_⟩), ?_⟩
    refine call (fun w' hm => kA w' (hL.mono (encF_mono _) (hm 0 _ rfl)) (sC3.mono (encF_mono _) (hm 5 _ rfl))) ?_
    rintro _ _ ⟨oA3, rfl, rfl, hoA3⟩
    have nA3 := hoA3.len
    refine ⟨(by repeat first | exact trivial | refine ⟨.inl rfl, ?_⟩ | refine ⟨.inr rfl, ?_⟩), ?_⟩
    refine hq' _ _ ?_
    refine normS [.hp (Hp.whole w), .box b3 [.int .i64 N, .slice a n c] 26, .box b5 [.int .i64 x, .int .i64 y] 85, .hp oQ1.h, .hp oQ2.h, .hp oC3.h, .hp oA3.h] rfl ?_
    refine callV _ (fun w' hm => kC w' (hL.mono (encF_mono _) (hm 0 _ rfl)) (hM.mono (encF_mono _) (hm 0 _ rfl))) ?_
    refine hideQ (fun _ h => h _ _ ?_)
    refine normS [.hp (Hp.whole w), .box b3 [.int .i64 N, .slice a n c] 26, .box b5 [.int .i64 x, .int .i64 y] 85, .hp oQ1.h, .hp oQ2.h, .hp oC3.h, .hp oA3.h] rfl ?_
    refine call (fun w' hm => kB w' (hL.mono (encF_mono _) (hm 0 _ rfl)) (hM.mono (encF_mono _) (hm 0 _ rfl))) ?_
    rintro _ _ ⟨oB3, rfl, rfl, hoB3⟩
    have nB3 := hoB3.len
    dsimp only at nB3
    intro b12
    refine hideQ (fun _ h => h _ _ ?_)
    refine normS [.hp (Hp.whole w), .box b3 [.int .i64 N, .slice a n c] 26, .box b5 [.int .i64 x, .int .i64 y] 85, .hp oQ1.h, .hp oQ2.h, .hp oC3.h, .hp oA3.h, .hp oB3.h, .box b12 [.int .i64 m, oB3.v] 26] rfl ?_
    refine hideQ (fun q' hq' => ?_)
    refine hideK 4 (fun qq k1 => ?_)
    refine k1 _ _ ?_
    refine hideK 5 (fun qq k1 => ?_)
    refine dfalse (fun h => h rfl) ?_
    refine k1 _ _ ?_
    refine hideK 5 (fun qq k1 => ?_)
    refine dfalse (fun h => h rfl) ?_
    refine k1 _ _ ?_
    refine hideK 15 (fun qq k1 => ?_)
    refine dfalse (fun h => h rfl) ?_
    refine bsplitd (fun w0 => ?_) (fun w0 => ?_)
    · clear lA
      obtain ⟨r1, r2, r3⟩ := zz w0
      rw [r1] at nA3
      rw [r2] at nB3
      simp only [List.length_nil] at nA3 nB3
      refine nw (by omega) (by omega) ?_
      refine nw (by omega) (by omega) ?_
      refine k1 _ _ ?_
      refine hq' _ _ ?_
      refine dfalse (by omega) ?_
      refine normS [.hp (Hp.whole w), .box b3 [.int .i64 N, .slice a n c] 26, .box b5 [.int .i64 x, .int .i64 y] 85, .hp oQ1.h, .hp oQ2.h, .hp oC3.h, .hp oA3.h, .hp oB3.h, .box b12 [.int .i64 m, oB3.v] 26] rfl ?_
      refine call (fun w' hm => plain_spec N w' (hL.mono (encF_mono _) (hm 0 _ rfl)) (by omega)) ?_
      rintro _ _ ⟨oQ4, rfl, rfl, hoQ4⟩
      have sQ4 := OwnO.sl (f := fE) (fun _ => rfl) (by decide) hoQ4
      refine callV _ (fun w' hm => kE w' (sQ4.mono (encF_mono _) (hm 9 _ rfl))) ?_
      refine hideQ (fun _ h => h _ _ ?_)
      refine normS [.hp (Hp.whole w), .box b3 [.int .i64 N, .slice a n c] 26, .box b5 [.int .i64 x, .int .i64 y] 85, .hp oQ1.h, .hp oQ2.h, .hp oC3.h, .hp oA3.h, .hp oB3.h, .box b12 [.int .i64 m, oB3.v] 26, .hp oQ4.h] rfl ?_
      refine hideQ (fun q' hq' => ?_)
      refine dtrue h0 ?_
      refine bsplitd (fun x0 => ?_) (fun x0 => ?_)
      · refine hq' _ _ ?_
        refine hideQ (fun _ h => h _ _ ?_)
        refine normS [.hp (Hp.whole w), .box b3 [.int .i64 N, .slice a n c] 26, .box b5 [.int .i64 x, .int .i64 y] 85, .hp oQ1.h, .hp oQ2.h, .hp oC3.h, .hp oA3.h, .hp oB3.h, .box b12 [.int .i64 m, oB3.v] 26, .hp oQ4.h] rfl ?_
        refine call (fun w' hm => kP w' (hL.mono (encF_mono _) (hm 0 _ rfl))) ?_
        rintro _ _ ⟨oP5, rfl, rfl, hoP5⟩
        refine hideQ (fun _ h => h _ _ ?_)
        refine normS [.hp (Hp.whole w), .box b3 [.int .i64 N, .slice a n c] 26, .box b5 [.int .i64 x, .int .i64 y] 85, .hp oQ1.h, .hp oQ2.h, .hp oC3.h, .hp oA3.h, .hp oB3.h, .box b12 [.int .i64 m, oB3.v] 26, .hp oQ4.h, .hp oP5.h] rfl ?_
        refine hideQ (fun _ h => h _ _ ?_)
        obtain ⟨pe, pn⟩ := pw 2 (by decide) (by rw [sg, if_neg (fun h => h h0), if_pos (by unfold beyondF; simp; omega)])
        have nP5 := hoP5.len
        rw [pn] at nP5
        refine normS [.hp (Hp.whole w), .box b3 [.int .i64 N, .slice a n c] 26, .box b5 [.int .i64 x, .int .i64 y] 85, .hp oQ1.h, .hp oQ2.h, .hp oC3.h, .hp oA3.h, .hp oB3.h, .box b12 [.int .i64 m, oB3.v] 26, .hp oQ4.h, .hp oP5.h] rfl ?_
        refine hideQ (fun q' hq' => ?_)
        refine dtrue pe ?_
        refine hq' _ _ ?_
        exact ⟨[], ⟨by rw [decide_eq_true (by rw [nP5]; rfl)], rfl⟩, fun w' h => h.pick [0] rfl rfl⟩
      refine bsplitd (fun x1 => ?_) (fun x1 => ?_)
      · refine hq' _ _ ?_
        refine hideQ (fun _ h => h _ _ ?_)
        refine normS [.hp (Hp.whole w), .box b3 [.int .i64 N, .slice a n c] 26, .box b5 [.int .i64 x, .int .i64 y] 85, .hp oQ1.h, .hp oQ2.h, .hp oC3.h, .hp oA3.h, .hp oB3.h, .box b12 [.int .i64 m, oB3.v] 26, .hp oQ4.h] rfl ?_
        refine call (fun w' hm => kP w' (hL.mono (encF_mono _) (hm 0 _ rfl))) ?_
        rintro _ _ ⟨oP6, rfl, rfl, hoP6⟩
        refine hideQ (fun _ h => h _ _ ?_)
        refine normS [.hp (Hp.whole w), .box b3 [.int .i64 N, .slice a n c] 26, .box b5 [.int .i64 x, .int .i64 y] 85, .hp oQ1.h, .hp oQ2.h, .hp oC3.h, .hp oA3.h, .hp oB3.h, .box b12 [.int .i64 m, oB3.v] 26, .hp oQ4.h, .hp oP6.h] rfl ?_
        refine hideQ (fun _ h => h _ _ ?_)
        obtain ⟨pe, pn⟩ := pw 2 (by decide) (by rw [sg, if_neg (fun h => h h0), if_pos (by unfold beyondF; simp; omega)])
        have nP6 := hoP6.len
        rw [pn] at nP6
        refine normS [.hp (Hp.whole w), .box b3 [.int .i64 N, .slice a n c] 26, .box b5 [.int .i64 x, .int .i64 y] 85, .hp oQ1.h, .hp oQ2.h, .hp oC3.h, .hp oA3.h, .hp oB3.h, .box b12 [.int .i64 m, oB3.v] 26, .hp oQ4.h, .hp oP6.h] rfl ?_
        refine hideQ (fun q' hq' => ?_)
        refine dtrue pe ?_
        refine hq' _ _ ?_
        exact ⟨[], ⟨by rw [decide_eq_true (by rw [nP6]; rfl)], rfl⟩, fun w' h => h.pick [0] rfl rfl⟩
      refine bsplitd (fun y0 => ?_) (fun y0 => ?_)
      · refine hq' _ _ ?_
        refine hideQ (fun _ h => h _ _ ?_)
        refine normS [.hp (Hp.whole w), .box b3 [.int .i64 N, .slice a n c] 26, .box b5 [.int .i64 x, .int .i64 y] 85, .hp oQ1.h, .hp oQ2.h, .hp oC3.h, .hp oA3.h, .hp oB3.h, .box b12 [.int .i64 m, oB3.v] 26, .hp oQ4.h] rfl ?_
        refine call (fun w' hm => kP w' (hL.mono (encF_mono _) (hm 0 _ rfl))) ?_
        rintro _ _ ⟨oP7, rfl, rfl, hoP7⟩
        refine hideQ (fun _ h => h _ _ ?_)
        refine normS [.hp (Hp.whole w), .box b3 [.int .i64 N, .slice a n c] 26, .box b5 [.int .i64 x, .int .i64 y] 85, .hp oQ1.h, .hp oQ2.h, .hp oC3.h, .hp oA3.h, .hp oB3.h, .box b12 [.int .i64 m, oB3.v] 26, .hp oQ4.h, .hp oP7.h] rfl ?_
        refine hideQ (fun _ h => h _ _ ?_)
        obtain ⟨pe, pn⟩ := pw 2 (by decide) (by rw [sg, if_neg (fun h => h h0), if_pos (by unfold beyondF; simp; omega)])
        have nP7 := hoP7.len
        rw [pn] at nP7
        refine normS [.hp (Hp.whole w), .box b3 [.int .i64 N, .slice a n c] 26, .box b5 [.int .i64 x, .int .i64 y] 85, .hp oQ1.h, .hp oQ2.h, .hp oC3.h, .hp oA3.h, .hp oB3.h, .box b12 [.int .i64 m, oB3.v] 26, .hp oQ4.h, .hp oP7.h] rfl ?_
        refine hideQ (fun q' hq' => ?_)
        refine dtrue pe ?_
        refine hq' _ _ ?_
        exact ⟨[], ⟨by rw [decide_eq_true (by rw [nP7]; rfl)], rfl⟩, fun w' h => h.pick [0] rfl rfl⟩
      refine hq' _ _ ?_
      refine bsplitd (fun y1 => ?_) (fun y1 => ?_)
      · skip
        refine hideQ (fun _ h => h _ _ ?_)
        refine normS [.hp (Hp.whole w), .box b3 [.int .i64 N, .slice a n c] 26, .box b5 [.int .i64 x, .int .i64 y] 85, .hp oQ1.h, .hp oQ2.h, .hp oC3.h, .hp oA3.h, .hp oB3.h, .box b12 [.int .i64 m, oB3.v] 26, .hp oQ4.h] rfl ?_
        refine call (fun w' hm => kP w' (hL.mono (encF_mono _) (hm 0 _ rfl))) ?_
        rintro _ _ ⟨oP8, rfl, rfl, hoP8⟩
        refine hideQ (fun _ h => h _ _ ?_)
        refine normS [.hp (Hp.whole w), .box b3 [.int .i64 N, .slice a n c] 26, .box b5 [.int .i64 x, .int .i64 y] 85, .hp oQ1.h, .hp oQ2.h, .hp oC3.h, .hp oA3.h, .hp oB3.h, .box b12 [.int .i64 m, oB3.v] 26, .hp oQ4.h, .hp oP8.h] rfl ?_
        refine hideQ (fun _ h => h _ _ ?_)
        obtain ⟨pe, pn⟩ := pw 2 (by decide) (by rw [sg, if_neg (fun h => h h0), if_pos (by unfold beyondF; simp; omega)])
        have nP8 := hoP8.len
        rw [pn] at nP8
        refine normS [.hp (Hp.whole w), .box b3 [.int .i64 N, .slice a n c] 26, .box b5 [.int .i64 x, .int .i64 y] 85, .hp oQ1.h, .hp oQ2.h, .hp oC3.h, .hp oA3.h, .hp oB3.h, .box b12 [.int .i64 m, oB3.v] 26, .hp oQ4.h, .hp oP8.h] rfl ?_
        refine hideQ (fun q' hq' => ?_)
        refine dtrue pe ?_
        refine hq' _ _ ?_
        exact ⟨[], ⟨by rw [decide_eq_true (by rw [nP8]; rfl)], rfl⟩, fun w' h => h.pick [0] rfl rfl⟩
      have bx : beyondF N x = false := by unfold beyondF; rw [decide_eq_false x0, decide_eq_false x1]; rfl
      have bY : beyondF N y = false := by unfold beyondF; rw [decide_eq_false y0, decide_eq_false y1]; rfl
      refine normS [.hp (Hp.whole w), .box b3 [.int .i64 N, .slice a n c] 26, .box b5 [.int .i64 x, .int .i64 y] 85, .hp oQ1.h, .hp oQ2.h, .hp oC3.h, .hp oA3.h, .hp oB3.h, .box b12 [.int .i64 m, oB3.v] 26, .hp oQ4.h] rfl ?_
      refine call (fun w' hm => kP w' (hL.mono (encF_mono _) (hm 0 _ rfl))) ?_
      rintro _ _ ⟨oP9, rfl, rfl, hoP9⟩
      refine dfalse (fun h => h h0) ?_
      obtain ⟨jj1, jj2⟩ := jz h0 bx bY
      refine normS [.hp (Hp.whole w), .box b3 [.int .i64 N, .slice a n c] 26, .box b5 [.int .i64 x, .int .i64 y] 85, .hp oQ1.h, .hp oQ2.h, .hp oC3.h, .hp oA3.h, .hp oB3.h, .box b12 [.int .i64 m, oB3.v] 26, .hp oQ4.h, .hp oP9.h] rfl ?_
      refine call (fun w' hm => kT w' (hL.mono (encF_mono _) (hm 0 _ rfl))) ?_
      rintro _ _ ⟨oT9, rfl, rfl, -⟩
      refine hideQ (fun _ h => h _ _ ?_)
      refine normS [.hp (Hp.whole w), .box b3 [.int .i64 N, .slice a n c] 26, .box b5 [.int .i64 x, .int .i64 y] 85, .hp oQ1.h, .hp oQ2.h, .hp oC3.h, .hp oA3.h, .hp oB3.h, .box b12 [.int .i64 m, oB3.v] 26, .hp oQ4.h, .hp oP9.h, .hp oT9.h] rfl ?_
      refine call (fun w' hm => kK w' (hL.mono (encF_mono _) (hm 0 _ rfl))) ?_
      rintro _ _ ⟨oK9, rfl, rfl, -⟩
      refine hideQ (fun _ h => h _ _ ?_)
      refine normS [.hp (Hp.whole w), .box b3 [.int .i64 N, .slice a n c] 26, .box b5 [.int .i64 x, .int .i64 y] 85, .hp oQ1.h, .hp oQ2.h, .hp oC3.h, .hp oA3.h, .hp oB3.h, .box b12 [.int .i64 m, oB3.v] 26, .hp oQ4.h, .hp oP9.h, .hp oT9.h, .hp oK9.h] rfl ?_
      refine hideQ (fun q' hq' => ?_)
      refine bsplitd (fun p0 => ?_) (fun p0 => ?_)
      · refine dtrue jj1 ?_
        refine hq' _ _ ?_
        exact ⟨[], ⟨by rw [decide_eq_true jj2], rfl⟩, fun w' h => h.pick [0] rfl rfl⟩
      · refine dtrue ((pz (by rw [sg, if_neg (fun h => h h0), bx, bY]; rfl)).resolve_left p0) ?_
        refine dtrue jj1 ?_
        refine hq' _ _ ?_
        exact ⟨[], ⟨by rw [decide_eq_true jj2], rfl⟩, fun w' h => h.pick [0] rfl rfl⟩
    · refine k1 _ _ ?_
      refine hq' _ _ ?_
      refine normS [.hp (Hp.whole w), .box b3 [.int .i64 N, .slice a n c] 26, .box b5 [.int .i64 x, .int .i64 y] 85, .hp oQ1.h, .hp oQ2.h, .hp oC3.h, .hp oA3.h, .hp oB3.h, .box b12 [.int .i64 m, oB3.v] 26] rfl ?_
      refine call (fun w' hm => plain_spec N w' (hL.mono (encF_mono _) (hm 0 _ rfl)) (by omega)) ?_
      rintro _ _ ⟨oQ10, rfl, rfl, hoQ10⟩
      have sQ10 := OwnO.sl (f := fE) (fun _ => rfl) (by decide) hoQ10
      refine callV _ (fun w' hm => kE w' (sQ10.mono (encF_mono _) (hm 9 _ rfl))) ?_
      refine hideQ (fun _ h => h _ _ ?_)
      refine normS [.hp (Hp.whole w), .box b3 [.int .i64 N, .slice a n c] 26, .box b5 [.int .i64 x, .int .i64 y] 85, .hp oQ1.h, .hp oQ2.h, .hp oC3.h, .hp oA3.h, .hp oB3.h, .box b12 [.int .i64 m, oB3.v] 26, .hp oQ10.h] rfl ?_
      refine hideQ (fun q' hq' => ?_)
      refine dtrue h0 ?_
      refine bsplitd (fun x0 => ?_) (fun x0 => ?_)
      · refine hq' _ _ ?_
        refine hideQ (fun _ h => h _ _ ?_)
        refine normS [.hp (Hp.whole w), .box b3 [.int .i64 N, .slice a n c] 26, .box b5 [.int .i64 x, .int .i64 y] 85, .hp oQ1.h, .hp oQ2.h, .hp oC3.h, .hp oA3.h, .hp oB3.h, .box b12 [.int .i64 m, oB3.v] 26, .hp oQ10.h] rfl ?_
        refine call (fun w' hm => kP w' (hL.mono (encF_mono _) (hm 0 _ rfl))) ?_
        rintro _ _ ⟨oP11, rfl, rfl, hoP11⟩
        refine hideQ (fun _ h => h _ _ ?_)
        refine normS [.hp (Hp.whole w), .box b3 [.int .i64 N, .slice a n c] 26, .box b5 [.int .i64 x, .int .i64 y] 85, .hp oQ1.h, .hp oQ2.h, .hp oC3.h, .hp oA3.h, .hp oB3.h, .box b12 [.int .i64 m, oB3.v] 26, .hp oQ10.h, .hp oP11.h] rfl ?_
        refine hideQ (fun _ h => h _ _ ?_)
        obtain ⟨pe, pn⟩ := pw 2 (by decide) (by rw [sg, if_neg (fun h => h h0), if_pos (by unfold beyondF; simp; omega)])
        have nP11 := hoP11.len
        rw [pn] at nP11
        refine normS [.hp (Hp.whole w), .box b3 [.int .i64 N, .slice a n c] 26, .box b5 [.int .i64 x, .int .i64 y] 85, .hp oQ1.h, .hp oQ2.h, .hp oC3.h, .hp oA3.h, .hp oB3.h, .box b12 [.int .i64 m, oB3.v] 26, .hp oQ10.h, .hp oP11.h] rfl ?_
        refine hideQ (fun q' hq' => ?_)
        refine dtrue pe ?_
        refine hq' _ _ ?_
        exact ⟨[], ⟨by rw [decide_eq_true (by rw [nP11]; rfl)], rfl⟩, fun w' h => h.pick [0] rfl rfl⟩
      refine bsplitd (fun x1 => ?_) (fun x1 => ?_)
      · refine hq' _ _ ?_
        refine hideQ (fun _ h => h _ _ ?_)
        refine normS [.hp (Hp.whole w), .box b3 [.int .i64 N, .slice a n c] 26, .box b5 [.int .i64 x, .int .i64 y] 85, .hp oQ1.h, .hp oQ2.h, .hp oC3.h, .hp oA3.h, .hp oB3.h, .box b12 [.int .i64 m, oB3.v] 26, .hp oQ10.h] rfl ?_
        refine call (fun w' hm => kP w' (hL.mono (encF_mono _) (hm 0 _ rfl))) ?_
        rintro _ _ ⟨oP12, rfl, rfl, hoP12⟩
        refine hideQ (fun _ h => h _ _ ?_)
        refine normS [.hp (Hp.whole w), .box b3 [.int .i64 N, .slice a n c] 26, .box b5 [.int .i64 x, .int .i64 y] 85, .hp oQ1.h, .hp oQ2.h, .hp oC3.h, .hp oA3.h, .hp oB3.h, .box b12 [.int .i64 m, oB3.v] 26, .hp oQ10.h, .hp oP12.h] rfl ?_
        refine hideQ (fun _ h => h _ _ ?_)
        obtain ⟨pe, pn⟩ := pw 2 (by decide) (by rw [sg, if_neg (fun h => h h0), if_pos (by unfold beyondF; simp; omega)])
        have nP12 := hoP12.len
        rw [pn] at nP12
        refine normS [.hp (Hp.whole w), .box b3 [.int .i64 N, .slice a n c] 26, .box b5 [.int .i64 x, .int .i64 y] 85, .hp oQ1.h, .hp oQ2.h, .hp oC3.h, .hp oA3.h, .hp oB3.h, .box b12 [.int .i64 m, oB3.v] 26, .hp oQ10.h, .hp oP12.h] rfl ?_
        refine hideQ (fun q' hq' => ?_)
        refine dtrue pe ?_
        refine hq' _ _ ?_
        exact ⟨[], ⟨by rw [decide_eq_true (by rw [nP12]; rfl)], rfl⟩, fun w' h => h.pick [0] rfl rfl⟩
      refine bsplitd (fun y0 => ?_) (fun y0 => ?_)
      · refine hq' _ _ ?_
        refine hideQ (fun _ h => h _ _ ?_)
        refine normS [.hp (Hp.whole w), .box b3 [.int .i64 N, .slice a n c] 26, .box b5 [.int .i64 x, .int .i64 y] 85, .hp oQ1.h, .hp oQ2.h, .hp oC3.h, .hp oA3.h, .hp oB3.h, .box b12 [.int .i64 m, oB3.v] 26, .hp oQ10.h] rfl ?_
        refine call (fun w' hm => kP w' (hL.mono (encF_mono _) (hm 0 _ rfl))) ?_
        rintro _ _ ⟨oP13, rfl, rfl, hoP13⟩
        refine hideQ (fun _ h => h _ _ ?_)
        refine normS [.hp (Hp.whole w), .box b3 [.int .i64 N, .slice a n c] 26, .box b5 [.int .i64 x, .int .i64 y] 85, .hp oQ1.h, .hp oQ2.h, .hp oC3.h, .hp oA3.h, .hp oB3.h, .box b12 [.int .i64 m, oB3.v] 26, .hp oQ10.h, .hp oP13.h] rfl ?_
        refine hideQ (fun _ h => h _ _ ?_)
        obtain ⟨pe, pn⟩ := pw 2 (by decide) (by rw [sg, if_neg (fun h => h h0), if_pos (by unfold beyondF; simp; omega)])
        have nP13 := hoP13.len
        rw [pn] at nP13
        refine normS [.hp (Hp.whole w), .box b3 [.int .i64 N, .slice a n c] 26, .box b5 [.int .i64 x, .int .i64 y] 85, .hp oQ1.h, .hp oQ2.h, .hp oC3.h, .hp oA3.h, .hp oB3.h, .box b12 [.int .i64 m, oB3.v] 26, .hp oQ10.h, .hp oP13.h] rfl ?_
        refine hideQ (fun q' hq' => ?_)
        refine dtrue pe ?_
        refine hq' _ _ ?_
        exact ⟨[], ⟨by rw [decide_eq_true (by rw [nP13]; rfl)], rfl⟩, fun w' h => h.pick [0] rfl rfl⟩
      refine hq' _ _ ?_
      refine bsplitd (fun y1 => ?_) (fun y1 => ?_)
      · skip
        refine hideQ (fun _ h => h _ _ ?_)
        refine normS [.hp (Hp.whole w), .box b3 [.int .i64 N, .slice a n c] 26, .box b5 [.int .i64 x, .int .i64 y] 85, .hp oQ1.h, .hp oQ2.h, .hp oC3.h, .hp oA3.h, .hp oB3.h, .box b12 [.int .i64 m, oB3.v] 26, .hp oQ10.h] rfl ?_
        refine call (fun w' hm => kP w' (hL.mono (encF_mono _) (hm 0 _ rfl))) ?_
        rintro _ _ ⟨oP14, rfl, rfl, hoP14⟩
        refine hideQ (fun _ h => h _ _ ?_)
        refine normS [.hp (Hp.whole w), .box b3 [.int .i64 N, .slice a n c] 26, .box b5 [.int .i64 x, .int .i64 y] 85, .hp oQ1.h, .hp oQ2.h, .hp oC3.h, .hp oA3.h, .hp oB3.h, .box b12 [.int .i64 m, oB3.v] 26, .hp oQ10.h, .hp oP14.h] rfl ?_
        refine hideQ (fun _ h => h _ _ ?_)
        obtain ⟨pe, pn⟩ := pw 2 (by decide) (by rw [sg, if_neg (fun h => h h0), if_pos (by unfold beyondF; simp; omega)])
        have nP14 := hoP14.len
        rw [pn] at nP14
        refine normS [.hp (Hp.whole w), .box b3 [.int .i64 N, .slice a n c] 26, .box b5 [.int .i64 x, .int .i64 y] 85, .hp oQ1.h, .hp oQ2.h, .hp oC3.h, .hp oA3.h, .hp oB3.h, .box b12 [.int .i64 m, oB3.v] 26, .hp oQ10.h, .hp oP14.h] rfl ?_
        refine hideQ (fun q' hq' => ?_)
        refine dtrue pe ?_
        refine hq' _ _ ?_
        exact ⟨[], ⟨by rw [decide_eq_true (by rw [nP14]; rfl)], rfl⟩, fun w' h => h.pick [0] rfl rfl⟩
      have bx : beyondF N x = false := by unfold beyondF; rw [decide_eq_false x0, decide_eq_false x1]; rfl
      have bY : beyondF N y = false := by unfold beyondF; rw [decide_eq_false y0, decide_eq_false y1]; rfl
      refine normS [.hp (Hp.whole w), .box b3 [.int .i64 N, .slice a n c] 26, .box b5 [.int .i64 x, .int .i64 y] 85, .hp oQ1.h, .hp oQ2.h, .hp oC3.h, .hp oA3.h, .hp oB3.h, .box b12 [.int .i64 m, oB3.v] 26, .hp oQ10.h] rfl ?_
      refine call (fun w' hm => kP w' (hL.mono (encF_mono _) (hm 0 _ rfl))) ?_
      rintro _ _ ⟨oP15, rfl, rfl, hoP15⟩
      refine dfalse (fun h => h h0) ?_
      obtain ⟨jj1, jj2⟩ := jz h0 bx bY
      refine normS [.hp (Hp.whole w), .box b3 [.int .i64 N, .slice a n c] 26, .box b5 [.int .i64 x, .int .i64 y] 85, .hp oQ1.h, .hp oQ2.h, .hp oC3.h, .hp oA3.h, .hp oB3.h, .box b12 [.int .i64 m, oB3.v] 26, .hp oQ10.h, .hp oP15.h] rfl ?_
      refine call (fun w' hm => kT w' (hL.mono (encF_mono _) (hm 0 _ rfl))) ?_
      rintro _ _ ⟨oT15, rfl, rfl, -⟩
      refine hideQ (fun _ h => h _ _ ?_)
      refine normS [.hp (Hp.whole w), .box b3 [.int .i64 N, .slice a n c] 26, .box b5 [.int .i64 x, .int .i64 y] 85, .hp oQ1.h, .hp oQ2.h, .hp oC3.h, .hp oA3.h, .hp oB3.h, .box b12 [.int .i64 m, oB3.v] 26, .hp oQ10.h, .hp oP15.h, .hp oT15.h] rfl ?_
      refine call (fun w' hm => kK w' (hL.mono (encF_mono _) (hm 0 _ rfl))) ?_
      rintro _ _ ⟨oK15, rfl, rfl, -⟩
      refine hideQ (fun _ h => h _ _ ?_)
      refine normS [.hp (Hp.whole w), .box b3 [.int .i64 N, .slice a n c] 26, .box b5 [.int .i64 x, .int .i64 y] 85, .hp oQ1.h, .hp oQ2.h, .hp oC3.h, .hp oA3.h, .hp oB3.h, .box b12 [.int .i64 m, oB3.v] 26, .hp oQ10.h, .hp oP15.h, .hp oT15.h, .hp oK15.h] rfl ?_
      refine hideQ (fun q' hq' => ?_)
      refine bsplitd (fun p0 => ?_) (fun p0 => ?_)
      · refine dtrue jj1 ?_
        refine hq' _ _ ?_
        exact ⟨[], ⟨by rw [decide_eq_true jj2], rfl⟩, fun w' h => h.pick [0] rfl rfl⟩
      · refine dtrue ((pz (by rw [sg, if_neg (fun h => h h0), bx, bY]; rfl)).resolve_left p0) ?_
        refine dtrue jj1 ?_
        refine hq' _ _ ?_
        exact ⟨[], ⟨by rw [decide_eq_true jj2], rfl⟩, fun w' h => h.pick [0] rfl rfl⟩
  · skip
    refine normD [.hp (Hp.whole w), .box b3 [.int .i64 N, .slice a n c] 26, .box b5 [.int .i64 x, .int .i64 y] 85, .hp oQ1.h] rfl ?_
    refine hideD (fun q' hq' => ?_)
    refine NeedD.by_order (cxg _) (.take 0 <| .take 1 <| .run 2 <| .run 3 <| .take 4 <| .take 5 <| .take 6 <| .take 7 <| .take 8 <| .done) (by kernel_rfl) ?_
    refine call (fun w' hm => cloneInts_spec w' (hM.mono (encF_mono _) (hm 0 _ rfl)) (by omega)) ?_
    rintro _ _ ⟨oC16, rfl, rfl, hoC16⟩
    have sC16 := OwnO.sl (f := fI) (fun _ => rfl) (by decide) hoC16
    refine ⟨(by repeat first | exact trivial | refine ⟨.inl rfl, ?_⟩ | refine ⟨.inr rfl, ?_⟩), ?_⟩
    refine call (fun w' hm => kA w' (hL.mono (encF_mono _) (hm 0 _ rfl)) (sC16.mono (encF_mono _) (hm 4 _ rfl))) ?_
    rintro _ _ ⟨oA16, rfl, rfl, hoA16⟩
    have nA16 := hoA16.len
    refine ⟨(by repeat first | exact trivial | refine ⟨.inl rfl, ?_⟩ | refine ⟨.inr rfl, ?_⟩), ?_⟩
    refine hq' _ _ ?_
    refine normS [.hp (Hp.whole w), .box b3 [.int .i64 N, .slice a n c] 26, .box b5 [.int .i64 x, .int .i64 y] 85, .hp oQ1.h, .hp oC16.h, .hp oA16.h] rfl ?_
    refine callV _ (fun w' hm => kC w' (hL.mono (encF_mono _) (hm 0 _ rfl)) (hM.mono (encF_mono _) (hm 0 _ rfl))) ?_
    refine hideQ (fun _ h => h _ _ ?_)
    refine normS [.hp (Hp.whole w), .box b3 [.int .i64 N, .slice a n c] 26, .box b5 [.int .i64 x, .int .i64 y] 85, .hp oQ1.h, .hp oC16.h, .hp oA16.h] rfl ?_
    refine call (fun w' hm => kB w' (hL.mono (encF_mono _) (hm 0 _ rfl)) (hM.mono (encF_mono _) (hm 0 _ rfl))) ?_
    rintro _ _ ⟨oB16, rfl, rfl, hoB16⟩
    have nB16 := hoB16.len
    dsimp only at nB16
    intro b12
    refine hideQ (fun _ h => h _ _ ?_)
    refine normS [.hp (Hp.whole w), .box b3 [.int .i64 N, .slice a n c] 26, .box b5 [.int .i64 x, .int .i64 y] 85, .hp oQ1.h, .hp oC16.h, .hp oA16.h, .hp oB16.h, .box b12 [.int .i64 m, oB16.v] 26] rfl ?_
    refine hideQ (fun q' hq' => ?_)
    refine hideK 4 (fun qq k1 => ?_)
    refine k1 _ _ ?_
    refine hideK 5 (fun qq k1 => ?_)
    refine dfalse (fun h => h (hze h0)) ?_
    refine k1 _ _ ?_
    refine hideK 5 (fun qq k1 => ?_)
    refine dfalse (fun h => h (hze h0)) ?_
    refine k1 _ _ ?_
    refine hideK 15 (fun qq k1 => ?_)
    refine dfalse (fun h => h (hze h0)) ?_
    refine dtrue h0 ?_
    obtain ⟨r1, r2, r3⟩ := zz (fun h => h0 ((hze h0).symm.trans h))
    rw [r1] at nA16
    rw [r2] at nB16
    simp only [List.length_nil] at nA16 nB16
    refine nw (by omega) (by omega) ?_
    refine nw (by omega) (by omega) ?_
    refine k1 _ _ ?_
    refine hq' _ _ ?_
    refine dfalse (by omega) ?_
    refine normS [.hp (Hp.whole w), .box b3 [.int .i64 N, .slice a n c] 26, .box b5 [.int .i64 x, .int .i64 y] 85, .hp oQ1.h, .hp oC16.h, .hp oA16.h, .hp oB16.h, .box b12 [.int .i64 m, oB16.v] 26] rfl ?_
    refine call (fun w' hm => plain_spec N w' (hL.mono (encF_mono _) (hm 0 _ rfl)) (by omega)) ?_
    rintro _ _ ⟨oQ17, rfl, rfl, hoQ17⟩
    have sQ17 := OwnO.sl (f := fE) (fun _ => rfl) (by decide) hoQ17
    refine callV _ (fun w' hm => kE w' (sQ17.mono (encF_mono _) (hm 8 _ rfl))) ?_
    refine hideQ (fun _ h => h _ _ ?_)
    refine normS [.hp (Hp.whole w), .box b3 [.int .i64 N, .slice a n c] 26, .box b5 [.int .i64 x, .int .i64 y] 85, .hp oQ1.h, .hp oC16.h, .hp oA16.h, .hp oB16.h, .box b12 [.int .i64 m, oB16.v] 26, .hp oQ17.h] rfl ?_
    refine hideQ (fun q' hq' => ?_)
    refine dfalse h0 ?_
    refine hq' _ _ ?_
    refine normS [.hp (Hp.whole w), .box b3 [.int .i64 N, .slice a n c] 26, .box b5 [.int .i64 x, .int .i64 y] 85, .hp oQ1.h, .hp oC16.h, .hp oA16.h, .hp oB16.h, .box b12 [.int .i64 m, oB16.v] 26, .hp oQ17.h] rfl ?_
    refine call (fun w' hm => kP w' (hL.mono (encF_mono _) (hm 0 _ rfl))) ?_
    rintro _ _ ⟨oP18, rfl, rfl, hoP18⟩
    refine dtrue h0 ?_
    obtain ⟨pe, pn⟩ := pw e0 h0 (by rw [sg, if_pos h0])
    have nP18 := hoP18.len
    rw [pn] at nP18
    refine normS [.hp (Hp.whole w), .box b3 [.int .i64 N, .slice a n c] 26, .box b5 [.int .i64 x, .int .i64 y] 85, .hp oQ1.h, .hp oC16.h, .hp oA16.h, .hp oB16.h, .box b12 [.int .i64 m, oB16.v] 26, .hp oQ17.h, .hp oP18.h] rfl ?_
    refine hideQ (fun q' hq' => ?_)
    refine dtrue pe ?_
    refine hq' _ _ ?_
    exact ⟨[], ⟨by rw [decide_eq_true (by rw [nP18]; rfl)], rfl⟩, fun w' h => h.pick [0] rfl rfl⟩
end Go.Proofs.Ytdjhgcpmipglfaa
