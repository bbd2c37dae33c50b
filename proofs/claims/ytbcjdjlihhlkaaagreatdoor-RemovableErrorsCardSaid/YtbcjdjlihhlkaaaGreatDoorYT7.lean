/- The law RemovableErrors returns true. Its premises are its arguments' form and the table of math/bits. -/
import Derived.Test.YtbcjdjlihhlkaaaGreatDoorXO
namespace Go.Proofs.YtbcjdjlihhlkaaaGreatDoor
open Go Go.RowKit Go.Dw
theorem qNeB24 {s : List Ch} {xo yo : Operand} {x y : Bool} {q : TV → Prop} (h : q (.v (.bool (x != y)))) :
    NeedQ Tryz.prog s (do eqGuard .neq 4 xo yo (.bool x) (.bool y); binOp .neq 4 (.bool x) (.bool y)) q := by
  refine ⟨_, fun w _ => ?_, h⟩
  have hun : (underlying 4).run Tryz.prog w = .ok .bool w := by simp [underlying, Tryz.underlying4]
  have hg : (eqGuard .neq 4 xo yo (.bool x) (.bool y)).run Tryz.prog w = .ok () w := by simp [eqGuard]
  rw [Sem.run_bind, hg]
  simp only [Result.andThen_ok, binOp, Sem.run_bind]
  have : (Op.equal 4 (.bool x) (.bool y)).run Tryz.prog w = .ok (x == y) w := by
    unfold Op.equal Op.maxDepth
    rw [show (10000 : Nat) = 9999 + 1 from rfl]
    unfold Op.equalIn
    simp only [Sem.run_bind, hun, Result.andThen_ok]
    cases x <;> cases y <;> rfl
  rw [this]
  rfl
theorem qEqB24 {s : List Ch} {xo yo : Operand} {x y : Bool} {q : TV → Prop} (h : q (.v (.bool (x == y)))) :
    NeedQ Tryz.prog s (do eqGuard .eql 4 xo yo (.bool x) (.bool y); binOp .eql 4 (.bool x) (.bool y)) q := by
  refine ⟨_, fun w _ => ?_, h⟩
  have hun : (underlying 4).run Tryz.prog w = .ok .bool w := by simp [underlying, Tryz.underlying4]
  have hg : (eqGuard .eql 4 xo yo (.bool x) (.bool y)).run Tryz.prog w = .ok () w := by simp [eqGuard]
  rw [Sem.run_bind, hg]
  simp only [Result.andThen_ok, binOp, Sem.run_bind]
  have : (Op.equal 4 (.bool x) (.bool y)).run Tryz.prog w = .ok (x == y) w := by
    unfold Op.equal Op.maxDepth
    rw [show (10000 : Nat) = 9999 + 1 from rfl]
    unfold Op.equalIn
    simp only [Sem.run_bind, hun, Result.andThen_ok]
    cases x <;> cases y <;> rfl
  rw [this]
  rfl
theorem pair_self (N : Int) (E : List (Int × Int)) (m x : Int) : pairE N E N E m x = resE N E m x := by
  unfold pairE
  by_cases h : checkF N E = 0
  · rw [if_neg (fun g => g h), if_neg (fun g => g h), if_neg (fun g => g rfl)]
  · rw [if_pos h]; unfold resE; rw [if_pos h]
theorem pair_nil (N : Int) (E : List (Int × Int)) : pairE N E N E 0 (-1) = checkF N E := by
  rw [pair_self]
  unfold resE
  by_cases h : checkF N E = 0
  · obtain ⟨M, rfl, _⟩ := checkF_ok h
    rw [if_neg (fun g => g h), if_neg (by omega), h]
  · rw [if_pos h]
theorem ready_nil (N : Int) (E : List (Int × Int)) : readyF N E [] = checkF N E := by
  unfold readyF
  by_cases h : checkF N E = 0
  · rw [if_neg (fun g => g h), h]; rfl
  · rw [if_pos h]
theorem res_zero {N : Int} {E : List (Int × Int)} {m x : Int} (h : resE N E m x ≠ 0) : canR N E m x = [] ∧ (leaR N E m x).2 = false ∧ nod (leaR N E m x).1 = [] ∧ helF N E m x = false ∧ choR N E N E m x (coF N E) = [] := by
  unfold canR helF leaR choR
  rw [if_neg h, if_neg h, pair_self, if_neg h, decide_eq_false h]
  exact ⟨rfl, rfl, by decide, rfl, rfl⟩
theorem chk_zero {N : Int} {E : List (Int × Int)} (h : checkF N E ≠ 0) : minR N E = [] ∧ cntF N E = 0 ∧ peeR N E = [] ∧ reaR N E [] = [] ∧ choR N E N E 0 (-1) (haF N N E) = [] := by
  unfold minR cntF peeR reaR choR
  rw [if_neg h, if_neg h, if_neg h, ready_nil, if_neg h, pair_nil, if_neg h]
  exact ⟨rfl, rfl, rfl, rfl, rfl⟩
set_option maxHeartbeats 1600000 in
set_option maxRecDepth 10000 in
theorem errors24_ok {a a' : Option Addr} {n c n' c' : Nat} {E : List (Int × Int)} {U : List Int} (N : Int) (N' : Int) (w : World) (hL : Sl (encF fE) 2 (Hp.whole w) a n c E) (hU : Sl (encF fY) 1 (Hp.whole w) a' n' c' U) (hN' : 0 ≤ N' ∧ N' ≤ 255) (hUr : ∀ u ∈ U, 0 ≤ u ∧ u ≤ 255) (x y : Int) (hT : Tab (Hp.whole w)) :
    CallsE Tryz.prog 3 #[gv N a n c, .agg #[.int .u8 N', .slice a' n' c'], .agg #[.int .i64 x, .int .i64 y]] w (RetV w (.bool true)) := by
  obtain ⟨M, hM⟩ : ∃ M, M = N'.toNat % 8 := ⟨_, rfl⟩
  have hM7 : M ≤ 7 := by omega
  obtain ⟨F, hFd⟩ : ∃ E, E = netE M U := ⟨_, rfl⟩
  have hG : Gr M F := hFd ▸ net_gr hM7 U
  have h0 : checkF M F = 0 := hFd ▸ net_check hM7 U
  have kG : ∀ w : World, Sl (encF fY) 1 (Hp.whole w) a' n' c' U → CallsE Tryz.prog 7 #[.agg #[.int .u8 N', .slice a' n' c']] w (Ret w fun v cs => ∃ o : Dw.Os, v = gv M o.a o.n o.c ∧ cs = [.hp o.h] ∧ OwnO fE 58 2 o F) := fun w h => by
    rw [hFd, hM]; exact Net_spec N' w h hN' hUr
  have lN := hL.len
  refine enter (X := cx 249) (cxg _) (args := [.agg #[.int .i64 N, .slice a n c], .agg #[.int .u8 N', .slice a' n' c'], .agg #[.int .i64 x, .int .i64 y]]) [.tmp 6] Tryz.func3 rfl rfl rfl rfl rfl ?_
  intro b3 b4 b5
  refine callV _ (fun w' hm => known24_spec w' (hT.mono (hm 0 _ rfl))) ?_
  refine bsplitd (fun hbig => ?_) (fun hbig => ?_)
  · refine callV _ (fun w' hm => known24_spec w' (hT.mono (hm 0 _ rfl))) ?_
    exact ⟨[], ⟨rfl, rfl⟩, fun w' h => h.pick [0] rfl rfl⟩
  obtain ⟨zc, hzc⟩ : ∃ z, z = checkF N E := ⟨_, rfl⟩
  have kH : ∀ w : World, Sl (encF fE) 2 (Hp.whole w) a n c E → CallsE Tryz.prog 6 #[gv N a n c] w (RetV w (.int .i64 zc)) := fun w h => by
    rw [hzc]; exact check_spec N w h
  refine callV _ (fun w' hm => kH w' (hL.mono (encF_mono _) (hm 0 _ rfl))) ?_
  refine bsplitd (fun hc0 => ?_) (fun hc0 => ?_)
  · clear kH
    refine call (fun w' hm => kG w' (hU.mono (encF_mono _) (hm 0 _ rfl))) ?_
    rintro _ _ ⟨o, rfl, rfl, ho⟩
    have sE := OwnO.sl (f := fE) (fun _ => rfl) (by decide) ho
    refine hideQ (fun _ h => h _ _ ?_)
    obtain ⟨zd, hzd⟩ : ∃ z, z = checkF (M : Int) F := ⟨_, rfl⟩
    have hzx : zd = 0 := by rw [hzd]; exact h0
    obtain ⟨z, hz⟩ : ∃ z, z = resE (M : Int) F x y := ⟨_, rfl⟩
    obtain ⟨K, hK⟩ : ∃ K, K = canR (M : Int) F x y := ⟨_, rfl⟩
    obtain ⟨fd, hfd⟩ : ∃ f, f = (leaR (M : Int) F x y).2 := ⟨_, rfl⟩
    obtain ⟨B, hB⟩ : ∃ B, B = nod (leaR (M : Int) F x y).1 := ⟨_, rfl⟩
    obtain ⟨hd, hhd⟩ : ∃ f, f = helF (M : Int) F x y := ⟨_, rfl⟩
    obtain ⟨C, hC⟩ : ∃ K, K = choR (M : Int) F (M : Int) F x y (coF (M : Int) F) := ⟨_, rfl⟩
    have hbad : z ≠ 0 → K = [] ∧ fd = false ∧ B = [] ∧ hd = false ∧ C = [] := fun h => by
      rw [hz] at h; rw [hK, hfd, hB, hhd, hC]; exact res_zero h
    have k7 : checkF (M : Int) F = 0 → ((M : Int) : Int) ≤ 7 := fun _ => by omega
    have kQ : ∀ w : World, Sl (encF fE) 2 (Hp.whole w) o.a o.n o.c F → CallsE Tryz.prog 8 #[gv (M : Int) o.a o.n o.c, .int .i64 x, .int .i64 y] w (RetV w (.int .i64 z)) := fun w h => by
      rw [hz]; exact ask_spec (M : Int) x y w h
    have kA : ∀ w : World, Sl (encF fE) 2 (Hp.whole w) o.a o.n o.c F → Tab (Hp.whole w) → CallsE Tryz.prog 9 #[gv (M : Int) o.a o.n o.c, .int .i64 x, .int .i64 y] w (RetR w K z) := fun w h hT => by
      rw [hK, hz]; exact Candidates_spec (M : Int) x y w h k7 hT
    have kL : ∀ w : World, Sl (encF fE) 2 (Hp.whole w) o.a o.n o.c F → Tab (Hp.whole w) → CallsE Tryz.prog 10 #[gv (M : Int) o.a o.n o.c, .int .i64 x, .int .i64 y] w (Ret w fun v cs => ∃ o : Dw.Os, v = .tuple #[o.v, .bool fd, .int .i64 z] ∧ cs = [.hp o.h] ∧ OwnO fI 3 1 o B) := fun w h hT => by
      rw [hfd, hz, hB]; exact Least_spec (M : Int) x y w h hT
    have kE : ∀ w : World, Sl (encF fE) 2 (Hp.whole w) o.a o.n o.c F → Tab (Hp.whole w) → CallsE Tryz.prog 11 #[gv (M : Int) o.a o.n o.c, .int .i64 x, .int .i64 y] w (RetV w (.tuple #[.bool hd, .int .i64 z])) := fun w h hT => by
      rw [hhd, hz]; exact Held_spec (M : Int) x y w h hT
    have kC : ∀ w : World, Sl (encF fE) 2 (Hp.whole w) o.a o.n o.c F → Tab (Hp.whole w) → CallsE Tryz.prog 12 #[gv (M : Int) o.a o.n o.c, gv (M : Int) o.a o.n o.c, .int .i64 x, .int .i64 y] w (RetR w C z) := fun w h hT => by
      rw [hC, hz, ← pair_self]; exact Connected_spec (M : Int) (M : Int) x y w h h k7 hT
    refine normS [.hp (Hp.whole w), .box b3 [.int .i64 M, .slice o.a o.n o.c] 24, .box b4 [.int .u8 N', .slice a' n' c'] 27, .box b5 [.int .i64 x, .int .i64 y] 28, .hp o.h] rfl ?_
    refine callV _ (fun w' hm => kQ w' (sE.mono (encF_mono _) (hm 4 _ rfl))) ?_
    refine hideQ (fun _ h => h _ _ ?_)
    refine normS [.hp (Hp.whole w), .box b3 [.int .i64 M, .slice o.a o.n o.c] 24, .box b4 [.int .u8 N', .slice a' n' c'] 27, .box b5 [.int .i64 x, .int .i64 y] 28, .hp o.h] rfl ?_
    refine call (fun w' hm => kA w' (sE.mono (encF_mono _) (hm 4 _ rfl)) (hT.mono (hm 0 _ rfl))) ?_
    rintro _ _ ⟨aA, nA, cA, gA, rfl, rfl, sA⟩
    have lA := sA.len
    refine hideQ (fun _ h => h _ _ ?_)
    refine normS [.hp (Hp.whole w), .box b3 [.int .i64 M, .slice o.a o.n o.c] 24, .box b4 [.int .u8 N', .slice a' n' c'] 27, .box b5 [.int .i64 x, .int .i64 y] 28, .hp o.h, .hp gA] rfl ?_
    refine call (fun w' hm => kL w' (sE.mono (encF_mono _) (hm 4 _ rfl)) (hT.mono (hm 0 _ rfl))) ?_
    rintro _ _ ⟨oB, rfl, rfl, hoB⟩
    have sB := OwnO.sl (f := fI) (fun _ => rfl) (by decide) hoB
    have lB := sB.len
    refine hideQ (fun _ h => h _ _ ?_)
    refine normS [.hp (Hp.whole w), .box b3 [.int .i64 M, .slice o.a o.n o.c] 24, .box b4 [.int .u8 N', .slice a' n' c'] 27, .box b5 [.int .i64 x, .int .i64 y] 28, .hp o.h, .hp gA, .hp oB.h] rfl ?_
    refine callV _ (fun w' hm => kE w' (sE.mono (encF_mono _) (hm 4 _ rfl)) (hT.mono (hm 0 _ rfl))) ?_
    refine hideQ (fun _ h => h _ _ ?_)
    refine normS [.hp (Hp.whole w), .box b3 [.int .i64 M, .slice o.a o.n o.c] 24, .box b4 [.int .u8 N', .slice a' n' c'] 27, .box b5 [.int .i64 x, .int .i64 y] 28, .hp o.h, .hp gA, .hp oB.h] rfl ?_
    refine call (fun w' hm => kC w' (sE.mono (encF_mono _) (hm 4 _ rfl)) (hT.mono (hm 0 _ rfl))) ?_
    rintro _ _ ⟨aC, nC, cC, gC, rfl, rfl, sC⟩
    have lC := sC.len
    refine hideQ (fun _ h => h _ _ ?_)
    refine normS [.hp (Hp.whole w), .box b3 [.int .i64 M, .slice o.a o.n o.c] 24, .box b4 [.int .u8 N', .slice a' n' c'] 27, .box b5 [.int .i64 x, .int .i64 y] 28, .hp o.h, .hp gA, .hp oB.h, .hp gC] rfl ?_
    refine bsplitd (fun hz0 => ?_) (fun hz0 => ?_)
    · skip
      have hr : resE M F x y = 0 := by rw [← hz]; exact hz0
      obtain ⟨hrc, hx0, hy1, hy2⟩ := resE_ok hr
      have hKc : K = candF M F x y := by rw [hK, canR_eq hG hM7 hr]
      obtain ⟨l1, l2, l3⟩ := lea_eq hG hM7 hr
      rw [← hfd, ← hKc] at l1
      rw [← hfd, ← hB, ← hKc] at l2
      rw [← hfd, ← hB] at l3
      have hhd2 : hd = !fd := by rw [hhd, hfd]; unfold helF; rw [decide_eq_true hr, Bool.true_and]
      have h7 : 2 ^ M ≤ 128 := Nat.pow_le_pow_right (n := 2) (by decide) hM7
      have hKl : K.length ≤ 128 := by rw [hKc]; have := candK_len F x y (2 ^ M - 2); unfold candF; omega
      have hKr : ∀ x ∈ K, x.length < 1000000000 := by
        rw [hKc]; exact fun z hz => by have := candK_row F x y _ z hz; omega
      have kW : ∀ w : World, Sl (encF fE) 2 (Hp.whole w) o.a o.n o.c F → CallsE Tryz.prog 13 #[gv M o.a o.n o.c, .int .i64 x, .int .i64 y] w (Ret w fun v cs => ∃ a' n' c' h, v = .slice a' n' c' ∧ cs = [.hp h] ∧ Sl (encS (encF fI) 1) 1 h a' n' c' K) := fun w h => by
        rw [hKc]; exact modCand_spec M hM7 x y (by omega) w h hG
      clear kQ kA kL kE kC hbad
      subst hz0
      refine call (fun w' hm => kW w' (sE.mono (encF_mono _) (hm 4 _ rfl))) ?_
      rintro _ _ ⟨aW, nW, cW, gW, rfl, rfl, sW⟩
      have lW := sW.len
      refine hideQ (fun _ h => h _ _ ?_)
      refine normS [.hp (Hp.whole w), .box b3 [.int .i64 M, .slice o.a o.n o.c] 24, .box b4 [.int .u8 N', .slice a' n' c'] 27, .box b5 [.int .i64 x, .int .i64 y] 28, .hp o.h, .hp gA, .hp oB.h, .hp gC, .hp gW] rfl ?_
      refine hideQ (fun q' hq' => ?_)
      refine callV _ (fun w' hm => sameSets_spec w' (sA.mono (encS_mono (encF_mono _) _) (hm 5 _ rfl)) (sW.mono (encS_mono (encF_mono _) _) (hm 8 _ rfl)) (by omega) hKr) ?_
      refine bfalse (by simp) ?_
      refine qNeB24 ?_
      refine bfalse (by rw [l1, show decide ((nW : Int) > 0) = decide (0 < K.length) from decide_eq_decide.2 (by omega)]; simp) ?_
      refine qEqB24 ?_
      refine bfalse (by rw [hhd2]; cases fd <;> rfl) ?_
      refine hq' _ _ ?_
      refine normS [.hp (Hp.whole w), .box b3 [.int .i64 M, .slice o.a o.n o.c] 24, .box b4 [.int .u8 N', .slice a' n' c'] 27, .box b5 [.int .i64 x, .int .i64 y] 28, .hp o.h, .hp gA, .hp oB.h, .hp gC, .hp gW] rfl ?_
      refine hideQ (fun q' hq' => ?_)
      cases hfe : fd with
      | true =>
        have hKp : 0 < K.length := of_decide_eq_true (by rw [← l1, hfe])
        have hB0 : B = K[0] := by rw [l2 hfe, List.getD_eq_getElem?_getD, List.getElem?_eq_getElem hKp]; rfl
        have hBl : B.length < 1000000000 := by rw [hB0]; exact hKr _ (List.getElem_mem hKp)
        refine idx (cxg _) (e := 37) rfl sW 0 rfl hKp (fun b9 o9 cs hcs hR hcell => ?_)
        obtain ⟨a3, n3, c3, rfl, hs3⟩ := hR
        refine ld1 (cxg _) (i := 8) rfl (hcell 0 _ rfl) rfl ?_
        have kS := fun (w' : World) (h : Sl (encF fI) 1 (Hp.whole w') oB.a oB.n oB.c B) (h' : Sl (encF fI) 1 (Hp.whole w') a3 n3 c3 K[0]) => sameInts_spec w' h h' (by omega)
        refine callV _ (fun w' hm => kS w' (sB.mono (encF_mono _) (hm 6 _ rfl)) (hs3.mono (encF_mono _) (hm 8 _ rfl))) ?_
        refine hq' _ _ ?_
        exact ⟨[], ⟨by rw [decide_eq_true hB0], rfl⟩, fun w' h => h.pick [0] rfl rfl⟩
      | false =>
        have hBn := l3 hfe
        have lB0 : oB.n = 0 := by rw [hBn] at lB; exact lB
        refine dtrue (by omega) ?_
        refine hq' _ _ ?_
        exact ⟨[], ⟨rfl, rfl⟩, fun w' h => h.pick [0] rfl rfl⟩
    · skip
      obtain ⟨rfl, rfl, rfl, rfl, rfl⟩ := hbad hz0
      rw [show nA = 0 from lA, show nC = 0 from lC]
      have lB0 : oB.n = 0 := lB
      clear kQ kA kL kE kC
      refine hideQ (fun q' hq' => ?_)
      refine nw (by omega) (by omega) ?_
      refine nw (by omega) (by omega) ?_
      refine dfalse (by omega) ?_
      refine dfalse (by simp) ?_
      refine dfalse (by simp) ?_
      refine dfalse (by simp) ?_
      refine hq' _ _ ?_
      refine dfalse (by simp) ?_
      obtain ⟨mR, hmR⟩ : ∃ K, K = minR (M : Int) F := ⟨_, rfl⟩
      obtain ⟨cn, hcn⟩ : ∃ K, K = cntF (M : Int) F := ⟨_, rfl⟩
      obtain ⟨pR, hpR⟩ : ∃ K, K = peeR (M : Int) F := ⟨_, rfl⟩
      obtain ⟨uR, huR⟩ : ∃ K, K = reaR (M : Int) F [] := ⟨_, rfl⟩
      obtain ⟨vR, hvR⟩ : ∃ K, K = choR (M : Int) F (M : Int) F 0 (-1) (haF (M : Int) (M : Int) F) := ⟨_, rfl⟩
      have kH : ∀ w : World, Sl (encF fE) 2 (Hp.whole w) o.a o.n o.c F → CallsE Tryz.prog 6 #[gv (M : Int) o.a o.n o.c] w (RetV w (.int .i64 zd)) := fun w h => by
        rw [hzd]; exact check_spec (M : Int) w h
      have kM : ∀ w : World, Sl (encF fE) 2 (Hp.whole w) o.a o.n o.c F → CallsE Tryz.prog 16 #[gv (M : Int) o.a o.n o.c] w (RetR w mR zd) := fun w h => by
        rw [hmR, hzd]; exact Minimal_spec (M : Int) w h
      have kN : ∀ w : World, Sl (encF fE) 2 (Hp.whole w) o.a o.n o.c F → CallsE Tryz.prog 17 #[gv (M : Int) o.a o.n o.c] w (RetV w (.tuple #[.int .i64 cn, .int .i64 zd])) := fun w h => by
        rw [hcn, hzd]; exact Count_spec (M : Int) w h k7
      have kP : ∀ w : World, Sl (encF fE) 2 (Hp.whole w) o.a o.n o.c F → CallsE Tryz.prog 18 #[gv (M : Int) o.a o.n o.c] w (RetR w pR zd) := fun w h => by
        rw [hpR, hzd]; exact Peel_spec (M : Int) w h
      have kU : ∀ w : World, Sl (encF fE) 2 (Hp.whole w) o.a o.n o.c F → CallsE Tryz.prog 19 #[gv (M : Int) o.a o.n o.c, .slice none 0 0] w (RetI w uR zd) := fun w h => by
        rw [huR, hzd, ← ready_nil]; exact Hull_spec (M : Int) w h (Sl.nil _ _ _ _ _) (by decide)
      have kV : ∀ w : World, Sl (encF fE) 2 (Hp.whole w) o.a o.n o.c F → Tab (Hp.whole w) → CallsE Tryz.prog 20 #[gv (M : Int) o.a o.n o.c, gv (M : Int) o.a o.n o.c] w (RetR w vR zd) := fun w h hT => by
        rw [hvR, hzd, ← pair_nil]; exact Halves_spec (M : Int) (M : Int) w h h k7 hT
      subst hzx
      refine normS [.hp (Hp.whole w), .box b3 [.int .i64 M, .slice o.a o.n o.c] 24, .box b4 [.int .u8 N', .slice a' n' c'] 27, .box b5 [.int .i64 x, .int .i64 y] 28, .hp o.h, .hp gA, .hp oB.h, .hp gC] rfl ?_
      refine callV _ (fun w' hm => kH w' (sE.mono (encF_mono _) (hm 4 _ rfl))) ?_
      refine hideQ (fun _ h => h _ _ ?_)
      refine normS [.hp (Hp.whole w), .box b3 [.int .i64 M, .slice o.a o.n o.c] 24, .box b4 [.int .u8 N', .slice a' n' c'] 27, .box b5 [.int .i64 x, .int .i64 y] 28, .hp o.h, .hp gA, .hp oB.h, .hp gC] rfl ?_
      refine call (fun w' hm => kM w' (sE.mono (encF_mono _) (hm 4 _ rfl))) ?_
      rintro _ _ ⟨aM, nM, cM, gM, rfl, rfl, sM⟩
      have lM := sM.len
      refine hideQ (fun _ h => h _ _ ?_)
      refine normS [.hp (Hp.whole w), .box b3 [.int .i64 M, .slice o.a o.n o.c] 24, .box b4 [.int .u8 N', .slice a' n' c'] 27, .box b5 [.int .i64 x, .int .i64 y] 28, .hp o.h, .hp gA, .hp oB.h, .hp gC, .hp gM] rfl ?_
      refine callV _ (fun w' hm => kN w' (sE.mono (encF_mono _) (hm 4 _ rfl))) ?_
      refine hideQ (fun _ h => h _ _ ?_)
      refine normS [.hp (Hp.whole w), .box b3 [.int .i64 M, .slice o.a o.n o.c] 24, .box b4 [.int .u8 N', .slice a' n' c'] 27, .box b5 [.int .i64 x, .int .i64 y] 28, .hp o.h, .hp gA, .hp oB.h, .hp gC, .hp gM] rfl ?_
      refine call (fun w' hm => kP w' (sE.mono (encF_mono _) (hm 4 _ rfl))) ?_
      rintro _ _ ⟨aP, nP, cP, gP, rfl, rfl, sP⟩
      have lP := sP.len
      refine hideQ (fun _ h => h _ _ ?_)
      refine normS [.hp (Hp.whole w), .box b3 [.int .i64 M, .slice o.a o.n o.c] 24, .box b4 [.int .u8 N', .slice a' n' c'] 27, .box b5 [.int .i64 x, .int .i64 y] 28, .hp o.h, .hp gA, .hp oB.h, .hp gC, .hp gM, .hp gP] rfl ?_
      refine call (fun w' hm => kU w' (sE.mono (encF_mono _) (hm 4 _ rfl))) ?_
      rintro _ _ ⟨oU, rfl, rfl, hoU⟩
      have lU := (OwnO.sl (f := fI) (fun _ => rfl) (by decide) hoU).len
      refine hideQ (fun _ h => h _ _ ?_)
      refine normS [.hp (Hp.whole w), .box b3 [.int .i64 M, .slice o.a o.n o.c] 24, .box b4 [.int .u8 N', .slice a' n' c'] 27, .box b5 [.int .i64 x, .int .i64 y] 28, .hp o.h, .hp gA, .hp oB.h, .hp gC, .hp gM, .hp gP, .hp oU.h] rfl ?_
      refine call (fun w' hm => kV w' (sE.mono (encF_mono _) (hm 4 _ rfl)) (hT.mono (hm 0 _ rfl))) ?_
      rintro _ _ ⟨aV, nV, cV, gV, rfl, rfl, sV⟩
      have lV := sV.len
      refine hideQ (fun _ h => h _ _ ?_)
      refine normS [.hp (Hp.whole w), .box b3 [.int .i64 M, .slice o.a o.n o.c] 24, .box b4 [.int .u8 N', .slice a' n' c'] 27, .box b5 [.int .i64 x, .int .i64 y] 28, .hp o.h, .hp gA, .hp oB.h, .hp gC, .hp gM, .hp gP, .hp oU.h, .hp gV] rfl ?_
      clear kH kM kN kP kU kV
      skip
      exact ⟨[], ⟨rfl, rfl⟩, fun w' h => h.pick [0] rfl rfl⟩
  · clear kH
    have hzx : zc ≠ 0 := hc0
    obtain ⟨z, hz⟩ : ∃ z, z = resE N E x y := ⟨_, rfl⟩
    obtain ⟨K, hK⟩ : ∃ K, K = canR N E x y := ⟨_, rfl⟩
    obtain ⟨fd, hfd⟩ : ∃ f, f = (leaR N E x y).2 := ⟨_, rfl⟩
    obtain ⟨B, hB⟩ : ∃ B, B = nod (leaR N E x y).1 := ⟨_, rfl⟩
    obtain ⟨hd, hhd⟩ : ∃ f, f = helF N E x y := ⟨_, rfl⟩
    obtain ⟨C, hC⟩ : ∃ K, K = choR N E N E x y (coF N E) := ⟨_, rfl⟩
    have hbad : z ≠ 0 → K = [] ∧ fd = false ∧ B = [] ∧ hd = false ∧ C = [] := fun h => by
      rw [hz] at h; rw [hK, hfd, hB, hhd, hC]; exact res_zero h
    have k7 : checkF N E = 0 → (N : Int) ≤ 7 := fun h => absurd (hzc.trans h) hc0
    have kQ : ∀ w : World, Sl (encF fE) 2 (Hp.whole w) a n c E → CallsE Tryz.prog 8 #[gv N a n c, .int .i64 x, .int .i64 y] w (RetV w (.int .i64 z)) := fun w h => by
      rw [hz]; exact ask_spec N x y w h
    have kA : ∀ w : World, Sl (encF fE) 2 (Hp.whole w) a n c E → Tab (Hp.whole w) → CallsE Tryz.prog 9 #[gv N a n c, .int .i64 x, .int .i64 y] w (RetR w K z) := fun w h hT => by
      rw [hK, hz]; exact Candidates_spec N x y w h k7 hT
    have kL : ∀ w : World, Sl (encF fE) 2 (Hp.whole w) a n c E → Tab (Hp.whole w) → CallsE Tryz.prog 10 #[gv N a n c, .int .i64 x, .int .i64 y] w (Ret w fun v cs => ∃ o : Dw.Os, v = .tuple #[o.v, .bool fd, .int .i64 z] ∧ cs = [.hp o.h] ∧ OwnO fI 3 1 o B) := fun w h hT => by
      rw [hfd, hz, hB]; exact Least_spec N x y w h hT
    have kE : ∀ w : World, Sl (encF fE) 2 (Hp.whole w) a n c E → Tab (Hp.whole w) → CallsE Tryz.prog 11 #[gv N a n c, .int .i64 x, .int .i64 y] w (RetV w (.tuple #[.bool hd, .int .i64 z])) := fun w h hT => by
      rw [hhd, hz]; exact Held_spec N x y w h hT
    have kC : ∀ w : World, Sl (encF fE) 2 (Hp.whole w) a n c E → Tab (Hp.whole w) → CallsE Tryz.prog 12 #[gv N a n c, gv N a n c, .int .i64 x, .int .i64 y] w (RetR w C z) := fun w h hT => by
      rw [hC, hz, ← pair_self]; exact Connected_spec N N x y w h h k7 hT
    refine normS [.hp (Hp.whole w), .box b3 [.int .i64 N, .slice a n c] 24, .box b4 [.int .u8 N', .slice a' n' c'] 27, .box b5 [.int .i64 x, .int .i64 y] 28] rfl ?_
    refine callV _ (fun w' hm => kQ w' (hL.mono (encF_mono _) (hm 0 _ rfl))) ?_
    refine hideQ (fun _ h => h _ _ ?_)
    refine normS [.hp (Hp.whole w), .box b3 [.int .i64 N, .slice a n c] 24, .box b4 [.int .u8 N', .slice a' n' c'] 27, .box b5 [.int .i64 x, .int .i64 y] 28] rfl ?_
    refine call (fun w' hm => kA w' (hL.mono (encF_mono _) (hm 0 _ rfl)) (hT.mono (hm 0 _ rfl))) ?_
    rintro _ _ ⟨aA, nA, cA, gA, rfl, rfl, sA⟩
    have lA := sA.len
    refine hideQ (fun _ h => h _ _ ?_)
    refine normS [.hp (Hp.whole w), .box b3 [.int .i64 N, .slice a n c] 24, .box b4 [.int .u8 N', .slice a' n' c'] 27, .box b5 [.int .i64 x, .int .i64 y] 28, .hp gA] rfl ?_
    refine call (fun w' hm => kL w' (hL.mono (encF_mono _) (hm 0 _ rfl)) (hT.mono (hm 0 _ rfl))) ?_
    rintro _ _ ⟨oB, rfl, rfl, hoB⟩
    have sB := OwnO.sl (f := fI) (fun _ => rfl) (by decide) hoB
    have lB := sB.len
    refine hideQ (fun _ h => h _ _ ?_)
    refine normS [.hp (Hp.whole w), .box b3 [.int .i64 N, .slice a n c] 24, .box b4 [.int .u8 N', .slice a' n' c'] 27, .box b5 [.int .i64 x, .int .i64 y] 28, .hp gA, .hp oB.h] rfl ?_
    refine callV _ (fun w' hm => kE w' (hL.mono (encF_mono _) (hm 0 _ rfl)) (hT.mono (hm 0 _ rfl))) ?_
    refine hideQ (fun _ h => h _ _ ?_)
    refine normS [.hp (Hp.whole w), .box b3 [.int .i64 N, .slice a n c] 24, .box b4 [.int .u8 N', .slice a' n' c'] 27, .box b5 [.int .i64 x, .int .i64 y] 28, .hp gA, .hp oB.h] rfl ?_
    refine call (fun w' hm => kC w' (hL.mono (encF_mono _) (hm 0 _ rfl)) (hT.mono (hm 0 _ rfl))) ?_
    rintro _ _ ⟨aC, nC, cC, gC, rfl, rfl, sC⟩
    have lC := sC.len
    refine hideQ (fun _ h => h _ _ ?_)
    refine normS [.hp (Hp.whole w), .box b3 [.int .i64 N, .slice a n c] 24, .box b4 [.int .u8 N', .slice a' n' c'] 27, .box b5 [.int .i64 x, .int .i64 y] 28, .hp gA, .hp oB.h, .hp gC] rfl ?_
    have hz0 : z ≠ 0 := by rw [hz]; unfold resE; rw [← hzc, if_pos hc0]; exact hc0
    refine dfalse hz0 ?_
    obtain ⟨rfl, rfl, rfl, rfl, rfl⟩ := hbad hz0
    rw [show nA = 0 from lA, show nC = 0 from lC]
    have lB0 : oB.n = 0 := lB
    clear kQ kA kL kE kC
    refine hideQ (fun q' hq' => ?_)
    refine nw (by omega) (by omega) ?_
    refine nw (by omega) (by omega) ?_
    refine dfalse (by omega) ?_
    refine dfalse (by simp) ?_
    refine dfalse (by simp) ?_
    refine dfalse (by simp) ?_
    refine hq' _ _ ?_
    refine dfalse (by simp) ?_
    obtain ⟨mR, hmR⟩ : ∃ K, K = minR N E := ⟨_, rfl⟩
    obtain ⟨cn, hcn⟩ : ∃ K, K = cntF N E := ⟨_, rfl⟩
    obtain ⟨pR, hpR⟩ : ∃ K, K = peeR N E := ⟨_, rfl⟩
    obtain ⟨uR, huR⟩ : ∃ K, K = reaR N E [] := ⟨_, rfl⟩
    obtain ⟨vR, hvR⟩ : ∃ K, K = choR N E N E 0 (-1) (haF N N E) := ⟨_, rfl⟩
    have kH : ∀ w : World, Sl (encF fE) 2 (Hp.whole w) a n c E → CallsE Tryz.prog 6 #[gv N a n c] w (RetV w (.int .i64 zc)) := fun w h => by
      rw [hzc]; exact check_spec N w h
    have kM : ∀ w : World, Sl (encF fE) 2 (Hp.whole w) a n c E → CallsE Tryz.prog 16 #[gv N a n c] w (RetR w mR zc) := fun w h => by
      rw [hmR, hzc]; exact Minimal_spec N w h
    have kN : ∀ w : World, Sl (encF fE) 2 (Hp.whole w) a n c E → CallsE Tryz.prog 17 #[gv N a n c] w (RetV w (.tuple #[.int .i64 cn, .int .i64 zc])) := fun w h => by
      rw [hcn, hzc]; exact Count_spec N w h k7
    have kP : ∀ w : World, Sl (encF fE) 2 (Hp.whole w) a n c E → CallsE Tryz.prog 18 #[gv N a n c] w (RetR w pR zc) := fun w h => by
      rw [hpR, hzc]; exact Peel_spec N w h
    have kU : ∀ w : World, Sl (encF fE) 2 (Hp.whole w) a n c E → CallsE Tryz.prog 19 #[gv N a n c, .slice none 0 0] w (RetI w uR zc) := fun w h => by
      rw [huR, hzc, ← ready_nil]; exact Hull_spec N w h (Sl.nil _ _ _ _ _) (by decide)
    have kV : ∀ w : World, Sl (encF fE) 2 (Hp.whole w) a n c E → Tab (Hp.whole w) → CallsE Tryz.prog 20 #[gv N a n c, gv N a n c] w (RetR w vR zc) := fun w h hT => by
      rw [hvR, hzc, ← pair_nil]; exact Halves_spec N N w h h k7 hT
    have hbad2 : zc ≠ 0 → mR = [] ∧ cn = 0 ∧ pR = [] ∧ uR = [] ∧ vR = [] := fun h => by
      rw [hzc] at h; rw [hmR, hcn, hpR, huR, hvR]; exact chk_zero h
    refine normS [.hp (Hp.whole w), .box b3 [.int .i64 N, .slice a n c] 24, .box b4 [.int .u8 N', .slice a' n' c'] 27, .box b5 [.int .i64 x, .int .i64 y] 28, .hp gA, .hp oB.h, .hp gC] rfl ?_
    refine callV _ (fun w' hm => kH w' (hL.mono (encF_mono _) (hm 0 _ rfl))) ?_
    refine hideQ (fun _ h => h _ _ ?_)
    refine normS [.hp (Hp.whole w), .box b3 [.int .i64 N, .slice a n c] 24, .box b4 [.int .u8 N', .slice a' n' c'] 27, .box b5 [.int .i64 x, .int .i64 y] 28, .hp gA, .hp oB.h, .hp gC] rfl ?_
    refine call (fun w' hm => kM w' (hL.mono (encF_mono _) (hm 0 _ rfl))) ?_
    rintro _ _ ⟨aM, nM, cM, gM, rfl, rfl, sM⟩
    have lM := sM.len
    refine hideQ (fun _ h => h _ _ ?_)
    refine normS [.hp (Hp.whole w), .box b3 [.int .i64 N, .slice a n c] 24, .box b4 [.int .u8 N', .slice a' n' c'] 27, .box b5 [.int .i64 x, .int .i64 y] 28, .hp gA, .hp oB.h, .hp gC, .hp gM] rfl ?_
    refine callV _ (fun w' hm => kN w' (hL.mono (encF_mono _) (hm 0 _ rfl))) ?_
    refine hideQ (fun _ h => h _ _ ?_)
    refine normS [.hp (Hp.whole w), .box b3 [.int .i64 N, .slice a n c] 24, .box b4 [.int .u8 N', .slice a' n' c'] 27, .box b5 [.int .i64 x, .int .i64 y] 28, .hp gA, .hp oB.h, .hp gC, .hp gM] rfl ?_
    refine call (fun w' hm => kP w' (hL.mono (encF_mono _) (hm 0 _ rfl))) ?_
    rintro _ _ ⟨aP, nP, cP, gP, rfl, rfl, sP⟩
    have lP := sP.len
    refine hideQ (fun _ h => h _ _ ?_)
    refine normS [.hp (Hp.whole w), .box b3 [.int .i64 N, .slice a n c] 24, .box b4 [.int .u8 N', .slice a' n' c'] 27, .box b5 [.int .i64 x, .int .i64 y] 28, .hp gA, .hp oB.h, .hp gC, .hp gM, .hp gP] rfl ?_
    refine call (fun w' hm => kU w' (hL.mono (encF_mono _) (hm 0 _ rfl))) ?_
    rintro _ _ ⟨oU, rfl, rfl, hoU⟩
    have lU := (OwnO.sl (f := fI) (fun _ => rfl) (by decide) hoU).len
    refine hideQ (fun _ h => h _ _ ?_)
    refine normS [.hp (Hp.whole w), .box b3 [.int .i64 N, .slice a n c] 24, .box b4 [.int .u8 N', .slice a' n' c'] 27, .box b5 [.int .i64 x, .int .i64 y] 28, .hp gA, .hp oB.h, .hp gC, .hp gM, .hp gP, .hp oU.h] rfl ?_
    refine call (fun w' hm => kV w' (hL.mono (encF_mono _) (hm 0 _ rfl)) (hT.mono (hm 0 _ rfl))) ?_
    rintro _ _ ⟨aV, nV, cV, gV, rfl, rfl, sV⟩
    have lV := sV.len
    refine hideQ (fun _ h => h _ _ ?_)
    refine normS [.hp (Hp.whole w), .box b3 [.int .i64 N, .slice a n c] 24, .box b4 [.int .u8 N', .slice a' n' c'] 27, .box b5 [.int .i64 x, .int .i64 y] 28, .hp gA, .hp oB.h, .hp gC, .hp gM, .hp gP, .hp oU.h, .hp gV] rfl ?_
    clear kH kM kN kP kU kV
    obtain ⟨rfl, rfl, rfl, rfl, rfl⟩ := hbad2 hzx
    rw [show nM = 0 from lM, show nP = 0 from lP, show nV = 0 from lV]
    have lU0 : oU.n = 0 := lU
    refine hideK 4 (fun qq k1 => ?_)
    refine k1 _ _ ?_
    refine hideK 5 (fun qq k1 => ?_)
    refine dtrue rfl ?_
    refine k1 _ _ ?_
    refine hideK 5 (fun qq k1 => ?_)
    refine dtrue rfl ?_
    refine k1 _ _ ?_
    refine hideK 5 (fun qq k1 => ?_)
    refine dtrue rfl ?_
    refine k1 _ _ ?_
    refine hideK 5 (fun qq k1 => ?_)
    refine dtrue rfl ?_
    refine k1 _ _ ?_
    refine hideK 3 (fun qq k1 => ?_)
    refine dtrue rfl ?_
    refine k1 _ _ ?_
    refine hideQ (fun q' hq' => ?_)
    refine dfalse hzx ?_
    refine nw (by omega) (by omega) ?_
    refine nw (by omega) (by omega) ?_
    refine nw (by omega) (by omega) ?_
    refine nw (by omega) (by omega) ?_
    refine hq' _ _ ?_
    exact ⟨[], ⟨by rw [decide_eq_true (by omega)], rfl⟩, fun w' h => h.pick [0] rfl rfl⟩
end Go.Proofs.YtbcjdjlihhlkaaaGreatDoor
