/- The law RemovableCandidates returns true. Its premises are its arguments' form and the table of math/bits. -/
import Derived.Test.YtbcjdjlihhlkaaaDoorXM
namespace Go.Proofs.YtbcjdjlihhlkaaaDoor
open Go Go.RowKit Go.Dw
theorem qNeB24 {s : List Ch} {xo yo : Operand} {x y : Bool} {q : TV → Prop} (h : q (.v (.bool (x != y)))) :
    NeedQ Tryd.prog s (do eqGuard .neq 4 xo yo (.bool x) (.bool y); binOp .neq 4 (.bool x) (.bool y)) q := by
  refine ⟨_, fun w _ => ?_, h⟩
  have hun : (underlying 4).run Tryd.prog w = .ok .bool w := by simp [underlying, Tryd.underlying4]
  have hg : (eqGuard .neq 4 xo yo (.bool x) (.bool y)).run Tryd.prog w = .ok () w := by simp [eqGuard]
  rw [Sem.run_bind, hg]
  simp only [Result.andThen_ok, binOp, Sem.run_bind]
  have : (Op.equal 4 (.bool x) (.bool y)).run Tryd.prog w = .ok (x == y) w := by
    unfold Op.equal Op.maxDepth
    rw [show (10000 : Nat) = 9999 + 1 from rfl]
    unfold Op.equalIn
    simp only [Sem.run_bind, hun, Result.andThen_ok]
    cases x <;> cases y <;> rfl
  rw [this]
  rfl
theorem Rds.slW {w : World} {vs : List Value} {LL : List (List Int)} (h : Rds (Hp.whole w) vs LL) {a : Option Addr} {n c : Nat} (hs : Sl (encF fV) 1 (Hp.whole w) a n c vs) : Sl (encS (encF fI) 1) 1 (Hp.whole w) a n c LL := by
  refine ⟨by rw [hs.len, h.len], hs.cap, fun i hi => ?_⟩
  have hi' : i < vs.length := by rw [h.len]; exact hi
  obtain ⟨b, off, cs, h1, h2, h3, h4⟩ := hs.cells i hi'
  have hv := h.get i _ _ (List.getElem?_eq_getElem hi') (List.getElem?_eq_getElem hi)
  refine ⟨b, off, cs, h1, h2, ?_, h4⟩
  rw [show cs = [vs[i]] from h3]
  exact hv
theorem cand_row {N : Nat} {E : List (Int × Int)} {most without : Int} : ∀ x ∈ candF N E most without, x.length < 1000000000 := fun x hx => by have := candK_row E most without _ x hx; omega
set_option maxRecDepth 10000 in
theorem candidates24_ok {a : Option Addr} {n c : Nat} {U : List Int} (N : Int) (w : World) (hU : Sl (encF fY) 1 (Hp.whole w) a n c U) (hN : 0 ≤ N ∧ N ≤ 255) (hUr : ∀ u ∈ U, 0 ≤ u ∧ u ≤ 255) (u : Int) (hu : 0 ≤ u ∧ u ≤ 255) (v : Int) (hv : 0 ≤ v ∧ v ≤ 255) (hT : Tab (Hp.whole w)) :
    CallsE Tryd.prog 3 #[.agg #[.int .u8 N, .slice a n c], .int .u8 u, .int .u8 v] w (RetV w (.bool true)) := by
  obtain ⟨M, hM⟩ : ∃ M, M = N.toNat % 8 := ⟨_, rfl⟩
  have hM7 : M ≤ 7 := by omega
  obtain ⟨E, hEd⟩ : ∃ E, E = netE M U := ⟨_, rfl⟩
  have hG : Gr M E := hEd ▸ net_gr hM7 U
  have h0 : checkF M E = 0 := hEd ▸ net_check hM7 U
  obtain ⟨k, hk⟩ : ∃ k, k = u.toNat % 8 := ⟨_, rfl⟩
  obtain ⟨y, hy⟩ : ∃ y, y = v.toNat % (M + 1) := ⟨_, rfl⟩
  have hyM : y < M + 1 := by rw [hy]; exact Nat.mod_lt _ (by omega)
  obtain ⟨x, hx⟩ : ∃ x : Int, x = (y : Int) - 1 := ⟨_, rfl⟩
  have hr : resE M E k x = 0 := by
    unfold resE
    rw [if_neg (by rw [h0]; decide), if_neg (by omega)]
  have kG : ∀ w : World, Sl (encF fY) 1 (Hp.whole w) a n c U → CallsE Tryd.prog 10 #[.agg #[.int .u8 N, .slice a n c]] w (Ret w fun v cs => ∃ o : Dw.Os, v = gv M o.a o.n o.c ∧ cs = [.hp o.h] ∧ OwnO fE 58 2 o E) := fun w h => by
    rw [hEd, hM]; exact Net_spec N w h hN hUr
  obtain ⟨K, hK⟩ : ∃ K, K = candF M E k x := ⟨_, rfl⟩
  have hKl : K.length ≤ 128 := by
    rw [hK]; have := candK_len E k x (2 ^ M - 2); have h7 := Nat.pow_le_pow_right (n := 2) (by decide) hM7; unfold candF; omega
  have hKr : ∀ x ∈ K, x.length < 1000000000 := by rw [hK]; exact cand_row
  obtain ⟨z, hz⟩ : ∃ z, z = resE M E k x := ⟨_, rfl⟩
  have hz0 : z = 0 := by rw [hz, hr]
  obtain ⟨zc, hzc⟩ : ∃ z, z = checkF M E := ⟨_, rfl⟩
  have hzc0 : zc = 0 := by rw [hzc, h0]
  obtain ⟨l1, l2, l3⟩ := lea_eq hG hM7 hr
  obtain ⟨fd, hfd⟩ : ∃ f, f = (leaR M E k x).2 := ⟨_, rfl⟩
  obtain ⟨B, hB⟩ : ∃ B, B = nod (leaR M E k x).1 := ⟨_, rfl⟩
  rw [← hfd, ← hK] at l1
  rw [← hfd, ← hB, ← hK] at l2
  rw [← hfd, ← hB] at l3
  have kC : ∀ {a : Option Addr} {n c : Nat} (w : World), Sl (encF fE) 2 (Hp.whole w) a n c E → CallsE Tryd.prog 11 #[gv M a n c, .int .i64 k, .int .i64 x] w (Ret w fun v cs => ∃ a' n' c' h, v = .slice a' n' c' ∧ cs = [.hp h] ∧ Sl (encS (encF fI) 1) 1 h a' n' c' K) := fun w h => by
    rw [hK]; exact modCand_spec M hM7 k x (by omega) w h hG
  have kA : ∀ {a : Option Addr} {n c : Nat} (w : World), Sl (encF fE) 2 (Hp.whole w) a n c E → Tab (Hp.whole w) → CallsE Tryd.prog 12 #[gv M a n c, .int .i64 k, .int .i64 x] w (RetR w K z) := fun w h hT => by
    have := Candidates_spec M k x w h (fun _ => by omega) hT
    rw [canR_eq hG hM7 hr] at this
    rw [hK, hz]; exact this
  have kL : ∀ {a : Option Addr} {n c : Nat} (w : World), Sl (encF fE) 2 (Hp.whole w) a n c E → Tab (Hp.whole w) → CallsE Tryd.prog 13 #[gv M a n c, .int .i64 k, .int .i64 x] w (Ret w fun v cs => ∃ o : Dw.Os, v = .tuple #[o.v, .bool fd, .int .i64 z] ∧ cs = [.hp o.h] ∧ OwnO fI 3 1 o B) := fun w h hT => by
    rw [hfd, hz, hB]; exact Least_spec M k x w h hT
  obtain ⟨KA, hKA⟩ : ∃ K, K = candF M E 0 (-1) := ⟨_, rfl⟩
  have hKAl : KA.length ≤ 128 := by
    rw [hKA]; have := candK_len E 0 (-1) (2 ^ M - 2); have h7 := Nat.pow_le_pow_right (n := 2) (by decide) hM7; unfold candF; omega
  have kC2 : ∀ {a : Option Addr} {n c : Nat} (w : World), Sl (encF fE) 2 (Hp.whole w) a n c E → CallsE Tryd.prog 11 #[gv M a n c, .int .i64 0, .int .i64 (-1)] w (Ret w fun v cs => ∃ a' n' c' h, v = .slice a' n' c' ∧ cs = [.hp h] ∧ Sl (encS (encF fI) 1) 1 h a' n' c' KA) := fun w h => by
    rw [hKA]; exact modCand_spec M hM7 0 (-1) (by decide) w h hG
  obtain ⟨cn, hcn⟩ : ∃ z, z = cntF M E := ⟨_, rfl⟩
  have hcnt := cnt_eq hG hM7 h0
  rw [← hcn, ← hKA] at hcnt
  obtain ⟨mR, hmR⟩ : ∃ R, R = minR M E := ⟨_, rfl⟩
  have hmeq : mR = miK M E M := by rw [hmR, min_eq hG hM7 h0]
  have hmRl : mR.length ≤ 7 := by rw [hmeq]; have := miK_len M E M; omega
  have hmRr : ∀ x ∈ mR, x.length < 1000000000 := fun x hx => by
    rw [hmeq] at hx
    obtain ⟨i, hi, rfl⟩ := List.mem_map.1 hx
    unfold cls
    rw [List.length_map]
    have := List.length_filter_le (fun j => eqv M E i j) (List.range M)
    rw [List.length_range] at this
    omega
  have kM : ∀ {a : Option Addr} {n c : Nat} (w : World), Sl (encF fE) 2 (Hp.whole w) a n c E → CallsE Tryd.prog 19 #[gv M a n c] w (RetR w mR zc) := fun w h => by
    rw [hmR, hzc]; exact Minimal_spec M w h
  have kN : ∀ {a : Option Addr} {n c : Nat} (w : World), Sl (encF fE) 2 (Hp.whole w) a n c E → CallsE Tryd.prog 20 #[gv M a n c] w (RetV w (.tuple #[.int .i64 cn, .int .i64 zc])) := fun w h => by
    rw [hcn, hzc]; exact Count_spec M w h (fun _ => by omega)
  refine enter (X := cx 164) (cxg _) (args := [.agg #[.int .u8 N, .slice a n c], .int .u8 u, .int .u8 v]) [.tmp 6] Tryd.func3 rfl rfl rfl rfl rfl ?_
  intro b3
  refine callV _ (fun w' hm => known24_spec w' (hT.mono (hm 0 _ rfl))) ?_
  refine call (fun w' hm => kG w' (hU.mono (encF_mono _) (hm 0 _ rfl))) ?_
  rintro _ _ ⟨o, rfl, rfl, ho⟩
  have sE := OwnO.sl (f := fE) (fun _ => rfl) (by decide) ho
  intro b7
  refine NeedD.cut Unit (fun _ => [(7, .bx 3 0), (8, .v (.int .i64 k)), (9, .v (.int .i64 x))]) (fun _ => [.hp (Hp.whole w), .box b3 [.int .u8 N, .slice a n c] 24, .hp o.h, .box b7 [.int .i64 M, .slice o.a o.n o.c] 28]) (fun _ => True) (NeedD.by_order (cxg _) (.take 0 <| .take 1 <| .take 2 <| .take 3 <| .take 4 <| .take 5 <| .take 6 <| .take 7 <| .take 8 <| .take 9 <| .take 10 <| .take 11 <| .done) (by kernel_rfl) ?_) ?_
  · refine qRemN u.toNat 8 (by omega) rfl (by decide) ?_
    rw [← hk]
    refine nw (by omega) (by omega) ?_
    refine nw (by omega) (by omega) ?_
    refine nw (by omega) (by omega) ?_
    refine qRemN v.toNat (M + 1) (by omega) (by omega) (by omega) ?_
    rw [← hy]
    refine nw (by omega) (by omega) ?_
    rw [← hx]
    exact ⟨(), trivial, Ent.mk (fun _ _ h => h) rfl rfl⟩
  rintro ⟨⟩ _ _
  dsimp only
  refine call (fun w' hm => kC w' (sE.mono (encF_mono _) (hm 2 _ rfl))) ?_
  rintro _ _ ⟨aW, nW, cW, hW, rfl, rfl, sW⟩
  have lW := sW.len
  refine hideQ (fun _ h => h _ _ ?_)
  refine normS [.hp (Hp.whole w), .box b3 [.int .u8 N, .slice a n c] 24, .hp o.h, .box b7 [.int .i64 M, .slice o.a o.n o.c] 28, .hp hW] rfl ?_
  refine call (fun w' hm => kA w' (sE.mono (encF_mono _) (hm 2 _ rfl)) (hT.mono (hm 0 _ rfl))) ?_
  rintro _ _ ⟨aA, nA, cA, hA, rfl, rfl, sA⟩
  have lA := sA.len
  refine hideQ (fun _ h => h _ _ ?_)
  refine normS [.hp (Hp.whole w), .box b3 [.int .u8 N, .slice a n c] 24, .hp o.h, .box b7 [.int .i64 M, .slice o.a o.n o.c] 28, .hp hW, .hp hA] rfl ?_
  refine call (fun w' hm => kL w' (sE.mono (encF_mono _) (hm 2 _ rfl)) (hT.mono (hm 0 _ rfl))) ?_
  rintro _ _ ⟨oB, rfl, rfl, hoB⟩
  have sB := OwnO.sl (f := fI) (fun _ => rfl) (by decide) hoB
  have lB := sB.len
  refine hideQ (fun _ h => h _ _ ?_)
  refine normS [.hp (Hp.whole w), .box b3 [.int .u8 N, .slice a n c] 24, .hp o.h, .box b7 [.int .i64 M, .slice o.a o.n o.c] 28, .hp hW, .hp hA, .hp oB.h] rfl ?_
  refine hideQ (fun q' hq' => ?_)
  refine callV _ (fun w' hm => sameSets_spec w' (sA.mono (encS_mono (encF_mono _) _) (hm 5 _ rfl)) (sW.mono (encS_mono (encF_mono _) _) (hm 4 _ rfl)) (by omega) hKr) ?_
  refine bfalse (by simp) ?_
  refine dfalse (by omega) ?_
  refine qNeB24 ?_
  refine bfalse (by rw [l1, show decide ((nW : Int) > 0) = decide (0 < K.length) from decide_eq_decide.2 (by omega)]; simp) ?_
  refine dfalse (by omega) ?_
  refine bsplit (fun hf => ?_) (fun hf => ?_)
  · have hKp : 0 < K.length := of_decide_eq_true (by rw [← l1, hf])
    have hB0 : B = K[0] := by rw [l2 hf, List.getD_eq_getElem?_getD, List.getElem?_eq_getElem hKp]; rfl
    have hBl : B.length < 1000000000 := by rw [hB0]; exact hKr _ (List.getElem_mem hKp)
    refine idx (cxg _) (e := 35) rfl sW 0 rfl hKp (fun b9 o9 cs hcs hR hcell => ?_)
    obtain ⟨a3, n3, c3, rfl, hs3⟩ := hR
    refine ld1 (cxg _) (i := 4) rfl (hcell 0 _ rfl) rfl ?_
    have kS := fun (w' : World) (h : Sl (encF fI) 1 (Hp.whole w') oB.a oB.n oB.c B) (h' : Sl (encF fI) 1 (Hp.whole w') a3 n3 c3 K[0]) => sameInts_spec w' h h' (by omega)
    rw [hB0] at kS sB
    refine callV _ (fun w' hm => kS w' (sB.mono (encF_mono _) (hm 6 _ rfl)) (hs3.mono (encF_mono _) (hm 4 _ rfl))) ?_
    refine bfalse (by simp) ?_
    refine bfalse (by rw [hf]; rfl) ?_
    refine hq' _ _ ?_
    refine normS [.hp (Hp.whole w), .box b3 [.int .u8 N, .slice a n c] 24, .hp o.h, .box b7 [.int .i64 M, .slice o.a o.n o.c] 28, .hp hW, .hp hA, .hp oB.h] rfl ?_
    refine call (fun w' hm => kC2 w' (sE.mono (encF_mono _) (hm 2 _ rfl))) ?_
    rintro _ _ ⟨aK, nK, cK, hKc, rfl, rfl, sK⟩
    have lK := sK.len
    refine NeedL.mkS (Nat × Dw.Os × List Value × Hp) (fun g => [(7, .bx 3 0), (16, .v (.slice aK nK cK)), (17, .v g.2.1.v), (18, .v (.int .i64 g.1))]) (fun g => [.hp (Hp.whole w), .box b3 [.int .u8 N, .slice a n c] 24, .hp o.h, .box b7 [.int .i64 M, .slice o.a o.n o.c] 28, .hp g.2.2.2, .hp g.2.1.h])
      (fun g => g.1 ≤ M ∧ OwnO fV 35 1 g.2.1 g.2.2.1 ∧ Rds g.2.2.2 g.2.2.1 (miK M E g.1)) (fun g => M - g.1) (0, Os.nil, [], Hp.emp)
      ⟨Nat.zero_le _, OwnO.nil _ _ _, Rds.nil _⟩ (Ent.mk (fun _ _ h => Ok.pick [0, 1, 2, 3, 8, 9] rfl rfl h.emp.emp) rfl rfl) ?_
    rintro ⟨i, oM, vs, H⟩ ⟨hi, hoM, hrd⟩ hsat
    dsimp only at *
    have hrl := hrd.len
    have hml := miK_len M E i
    refine bsplitd (fun hlt => ?_) (fun hge => ?_)
    · have hi' : i < M := by omega
      have st := miK_succ M E i
      obtain ⟨g, hg⟩ : ∃ g, g = comK M E i M := ⟨_, rfl⟩
      have hg63 : g < 9223372036854775808 := by rw [hg]; exact comK_lt (by omega)
      have hgn : nod g = cls M E i := by rw [hg, com_nod hG hi']
      have hmi : miP M E i = (clsE E g && decide ((g : Int) ≠ ((2 ^ M : Nat) : Int) - 1) && decide ((cls M E i).getD 0 0 = (i : Int))) := by rw [hg]; rfl
      obtain ⟨L, hL⟩ : ∃ L, L = cls M E i := ⟨_, rfl⟩
      obtain ⟨hL0, _⟩ := cls_head hG hi'
      rw [← hL] at hL0 hgn hmi st
      obtain ⟨P, hP⟩ : ∃ P : Nat, P = 2 ^ M := ⟨_, rfl⟩
      have hP7 : P ≤ 128 := by rw [hP]; exact Nat.pow_le_pow_right (n := 2) (by decide) hM7
      rw [← hP] at hmi
      obtain ⟨cl, hcl⟩ : ∃ b, b = clsE E g := ⟨_, rfl⟩
      rw [← hcl] at hmi
      have kD : ∀ {a : Option Addr} {n c : Nat} (w : World), Sl (encF fE) 2 (Hp.whole w) a n c E → CallsE Tryd.prog 16 #[gv M a n c, .int .i64 i] w (RetV w (.int .i64 (g : Nat))) := fun w h => by
        rw [hg]; exact modComp_spec M w h hG (by omega) i hi'
      have kE : ∀ {a : Option Addr} {n c : Nat} (w : World), Sl (encF fE) 2 (Hp.whole w) a n c E → CallsE Tryd.prog 17 #[gv M a n c, .int .i64 g] w (RetV w (.bool cl)) := fun w h => by
        rw [hcl]; exact modClosed_spec M w h hG (by omega) g hg63
      have kF : ∀ w : World, CallsE Tryd.prog 18 #[.int .i64 g] w (Ret w fun v cs => ∃ o : Dw.Os, v = o.v ∧ cs = [.hp o.h] ∧ OwnO fI 3 1 o L) := fun w => by
        rw [← hgn]; exact modNodes_spec g hg63 w
      refine callV _ (fun w' hm => kD w' (sE.mono (encF_mono _) (hm 2 _ rfl))) ?_
      refine hideQ (fun _ h => h _ _ ?_)
      refine normS [.hp (Hp.whole w), .box b3 [.int .u8 N, .slice a n c] 24, .hp o.h, .box b7 [.int .i64 M, .slice o.a o.n o.c] 28, .hp H, .hp oM.h] rfl ?_
      refine hideQ (fun q' hq' => ?_)
      refine callV _ (fun w' hm => kE w' (sE.mono (encF_mono _) (hm 2 _ rfl))) ?_
      refine bsplit (fun hc1 => ?_) (fun hc1 => ?_)
      · rw [hc1, Bool.true_and] at hmi
        refine qShlI M rfl rfl (by omega) ?_
        rw [← hP]
        refine nw (by omega) (by omega) ?_
        refine bsplitd (fun hc2 => ?_) (fun hc2 => ?_)
        · rw [decide_eq_true hc2, Bool.true_and] at hmi
          refine call (fun w' hm => kF w') ?_
          rintro _ _ ⟨oL, rfl, rfl, hoL⟩
          have sL := OwnO.sl (f := fI) (fun _ => rfl) (by decide) hoL
          refine idx (cxg _) (e := 3) rfl sL 0 rfl hL0 (fun b9 o9 cs hcs hR hcell => ?_)
          subst hR
          refine ld1 (cxg _) (i := 6) rfl (hcell 0 _ rfl) rfl ?_
          refine hq' _ _ ?_
          have hgd : L.getD 0 0 = L[0] := by rw [List.getD_eq_getElem?_getD, List.getElem?_eq_getElem hL0]; rfl
          rw [hgd] at hmi
          refine bsplitd (fun hc3 => ?_) (fun hc3 => ?_)
          · rw [decide_eq_true hc3] at hmi
            rw [hmi, if_pos rfl] at st
            refine callS (fun w' hm => kF w') ?_
            rintro _ _ ⟨oN, rfl, rfl, hoN⟩ hsat2
            have sN := OwnO.sl (f := fI) (fun _ => rfl) (by decide) hoN
            have hjH : H.dj oN.h := hsat2.dj 4 7 rfl rfl (by decide)
            intro b130
            refine appO (f := fV) (cxg _) (e := 35) rfl (i := 5) rfl hoM (j := 8) oN.v rfl rfl rfl rfl (by omega) (fun oM' hoM' => ?_)
            refine nw (by omega) (by omega) ?_
            refine ⟨(i + 1, oM', vs ++ [oN.v], H.join oN.h), ⟨by dsimp only; omega, hoM', ?_⟩, by dsimp only; omega, Ent.mk (fun _ _ h => Ok.pick [0, 2, 3, 4, 1, 5] rfl rfl (Ok.join (c := .hp (Hp.whole w)) (Ok.pick [0, 4, 7, 1, 2, 3, 5] rfl rfl h))) rfl rfl⟩
            dsimp only
            rw [st]
            exact (hrd.mono (Hp.le_join_l H oN.h)).push ⟨_, _, _, rfl, sN.mono (encF_mono _) (Hp.le_join_r hjH)⟩
          · rw [decide_eq_false hc3] at hmi
            rw [hmi, if_neg (by decide)] at st
            refine nw (by omega) (by omega) ?_
            exact ⟨(i + 1, oM, vs, H), ⟨by dsimp only; omega, hoM, by dsimp only; rw [st]; exact hrd⟩, by dsimp only; omega, Ent.mk (fun _ _ h => h.pick [0, 1, 2, 3, 4, 5] rfl rfl) rfl rfl⟩
        · refine hq' _ _ ?_
          rw [decide_eq_false hc2, Bool.false_and] at hmi
          rw [hmi, if_neg (by decide)] at st
          refine nw (by omega) (by omega) ?_
          exact ⟨(i + 1, oM, vs, H), ⟨by dsimp only; omega, hoM, by dsimp only; rw [st]; exact hrd⟩, by dsimp only; omega, Ent.mk (fun _ _ h => h.pick [0, 1, 2, 3, 4, 5] rfl rfl) rfl rfl⟩
      · refine hq' _ _ ?_
        rw [hc1, Bool.false_and, Bool.false_and] at hmi
        rw [hmi, if_neg (by decide)] at st
        refine nw (by omega) (by omega) ?_
        exact ⟨(i + 1, oM, vs, H), ⟨by dsimp only; omega, hoM, by dsimp only; rw [st]; exact hrd⟩, by dsimp only; omega, Ent.mk (fun _ _ h => h.pick [0, 1, 2, 3, 4, 5] rfl rfl) rfl rfl⟩
    · have hiM : i = M := by omega
      rw [hiM, ← hmeq] at hrd
      have sO := OwnO.sl (f := fV) (fun _ => rfl) (by decide) hoM
      refine call (fun w' hm => kM w' (sE.mono (encF_mono _) (hm 2 _ rfl))) ?_
      rintro _ _ ⟨aM, nM, cM, hMh, rfl, rfl, sM⟩
      have lM := sM.len
      refine hideQ (fun _ h => h _ _ ?_)
      refine normS [.hp (Hp.whole w), .box b3 [.int .u8 N, .slice a n c] 24, .hp o.h, .box b7 [.int .i64 M, .slice o.a o.n o.c] 28, .hp H, .hp oM.h, .hp hMh] rfl ?_
      refine callV _ (fun w' hm => kN w' (sE.mono (encF_mono _) (hm 2 _ rfl))) ?_
      refine hideQ (fun _ h => h _ _ ?_)
      refine normS [.hp (Hp.whole w), .box b3 [.int .u8 N, .slice a n c] 24, .hp o.h, .box b7 [.int .i64 M, .slice o.a o.n o.c] 28, .hp H, .hp oM.h, .hp hMh] rfl ?_
      refine nw (by omega) (by omega) ?_
      refine bsplitd (fun hM0 => ?_) (fun hM0 => ?_)
      · have hcv : cn = 1 := by rw [hcnt, if_pos (by omega)]
        refine hideQ (fun _ h => h _ _ ?_)
        refine normS [.hp (Hp.whole w), .box b3 [.int .u8 N, .slice a n c] 24, .hp o.h, .box b7 [.int .i64 M, .slice o.a o.n o.c] 28, .hp H, .hp oM.h, .hp hMh] rfl ?_
        refine hideQ (fun q' hq' => ?_)
        refine callV _ (fun w' hm => sameSets_spec w' (sM.mono (encS_mono (encF_mono _) _) (hm 6 _ rfl)) ((hrd.mono (hm 4 _ rfl)).slW (sO.mono (encF_mono _) (hm 5 _ rfl))) (by omega) hmRr) ?_
        refine dtrue rfl ?_
        refine dtrue hzc0 ?_
        refine dtrue hcv ?_
        refine hq' _ _ ?_
        exact ⟨[], ⟨by rw [decide_eq_true hzc0], rfl⟩, fun w' h => h.pick [0] rfl rfl⟩
      · have hcv : cn = (nK : Int) + 2 := by rw [hcnt, if_neg (by omega), lK]
        refine normS [.hp (Hp.whole w), .box b3 [.int .u8 N, .slice a n c] 24, .hp o.h, .box b7 [.int .i64 M, .slice o.a o.n o.c] 28, .hp H, .hp oM.h, .hp hMh] rfl ?_
        refine hideQ (fun q' hq' => ?_)
        refine callV _ (fun w' hm => sameSets_spec w' (sM.mono (encS_mono (encF_mono _) _) (hm 6 _ rfl)) ((hrd.mono (hm 4 _ rfl)).slW (sO.mono (encF_mono _) (hm 5 _ rfl))) (by omega) hmRr) ?_
        refine dtrue rfl ?_
        refine dtrue hzc0 ?_
        refine dtrue hcv ?_
        refine hq' _ _ ?_
        exact ⟨[], ⟨by rw [decide_eq_true hzc0], rfl⟩, fun w' h => h.pick [0] rfl rfl⟩
  · have hBn := l3 hf
    refine btrue (by rw [hf]; rfl) ?_
    refine hq' _ _ ?_
    refine dfalse (by rw [hBn] at lB; simp at lB; omega) ?_
    refine normS [.hp (Hp.whole w), .box b3 [.int .u8 N, .slice a n c] 24, .hp o.h, .box b7 [.int .i64 M, .slice o.a o.n o.c] 28, .hp hW, .hp hA, .hp oB.h] rfl ?_
    refine call (fun w' hm => kC2 w' (sE.mono (encF_mono _) (hm 2 _ rfl))) ?_
    rintro _ _ ⟨aK, nK, cK, hKc, rfl, rfl, sK⟩
    have lK := sK.len
    refine NeedL.mkS (Nat × Dw.Os × List Value × Hp) (fun g => [(7, .bx 3 0), (16, .v (.slice aK nK cK)), (17, .v g.2.1.v), (18, .v (.int .i64 g.1))]) (fun g => [.hp (Hp.whole w), .box b3 [.int .u8 N, .slice a n c] 24, .hp o.h, .box b7 [.int .i64 M, .slice o.a o.n o.c] 28, .hp g.2.2.2, .hp g.2.1.h])
      (fun g => g.1 ≤ M ∧ OwnO fV 35 1 g.2.1 g.2.2.1 ∧ Rds g.2.2.2 g.2.2.1 (miK M E g.1)) (fun g => M - g.1) (0, Os.nil, [], Hp.emp)
      ⟨Nat.zero_le _, OwnO.nil _ _ _, Rds.nil _⟩ (Ent.mk (fun _ _ h => Ok.pick [0, 1, 2, 3, 8, 9] rfl rfl h.emp.emp) rfl rfl) ?_
    rintro ⟨i, oM, vs, H⟩ ⟨hi, hoM, hrd⟩ hsat
    dsimp only at *
    have hrl := hrd.len
    have hml := miK_len M E i
    refine bsplitd (fun hlt => ?_) (fun hge => ?_)
    · have hi' : i < M := by omega
      have st := miK_succ M E i
      obtain ⟨g, hg⟩ : ∃ g, g = comK M E i M := ⟨_, rfl⟩
      have hg63 : g < 9223372036854775808 := by rw [hg]; exact comK_lt (by omega)
      have hgn : nod g = cls M E i := by rw [hg, com_nod hG hi']
      have hmi : miP M E i = (clsE E g && decide ((g : Int) ≠ ((2 ^ M : Nat) : Int) - 1) && decide ((cls M E i).getD 0 0 = (i : Int))) := by rw [hg]; rfl
      obtain ⟨L, hL⟩ : ∃ L, L = cls M E i := ⟨_, rfl⟩
      obtain ⟨hL0, _⟩ := cls_head hG hi'
      rw [← hL] at hL0 hgn hmi st
      obtain ⟨P, hP⟩ : ∃ P : Nat, P = 2 ^ M := ⟨_, rfl⟩
      have hP7 : P ≤ 128 := by rw [hP]; exact Nat.pow_le_pow_right (n := 2) (by decide) hM7
      rw [← hP] at hmi
      obtain ⟨cl, hcl⟩ : ∃ b, b = clsE E g := ⟨_, rfl⟩
      rw [← hcl] at hmi
      have kD : ∀ {a : Option Addr} {n c : Nat} (w : World), Sl (encF fE) 2 (Hp.whole w) a n c E → CallsE Tryd.prog 16 #[gv M a n c, .int .i64 i] w (RetV w (.int .i64 (g : Nat))) := fun w h => by
        rw [hg]; exact modComp_spec M w h hG (by omega) i hi'
      have kE : ∀ {a : Option Addr} {n c : Nat} (w : World), Sl (encF fE) 2 (Hp.whole w) a n c E → CallsE Tryd.prog 17 #[gv M a n c, .int .i64 g] w (RetV w (.bool cl)) := fun w h => by
        rw [hcl]; exact modClosed_spec M w h hG (by omega) g hg63
      have kF : ∀ w : World, CallsE Tryd.prog 18 #[.int .i64 g] w (Ret w fun v cs => ∃ o : Dw.Os, v = o.v ∧ cs = [.hp o.h] ∧ OwnO fI 3 1 o L) := fun w => by
        rw [← hgn]; exact modNodes_spec g hg63 w
      refine callV _ (fun w' hm => kD w' (sE.mono (encF_mono _) (hm 2 _ rfl))) ?_
      refine hideQ (fun _ h => h _ _ ?_)
      refine normS [.hp (Hp.whole w), .box b3 [.int .u8 N, .slice a n c] 24, .hp o.h, .box b7 [.int .i64 M, .slice o.a o.n o.c] 28, .hp H, .hp oM.h] rfl ?_
      refine hideQ (fun q' hq' => ?_)
      refine callV _ (fun w' hm => kE w' (sE.mono (encF_mono _) (hm 2 _ rfl))) ?_
      refine bsplit (fun hc1 => ?_) (fun hc1 => ?_)
      · rw [hc1, Bool.true_and] at hmi
        refine qShlI M rfl rfl (by omega) ?_
        rw [← hP]
        refine nw (by omega) (by omega) ?_
        refine bsplitd (fun hc2 => ?_) (fun hc2 => ?_)
        · rw [decide_eq_true hc2, Bool.true_and] at hmi
          refine call (fun w' hm => kF w') ?_
          rintro _ _ ⟨oL, rfl, rfl, hoL⟩
          have sL := OwnO.sl (f := fI) (fun _ => rfl) (by decide) hoL
          refine idx (cxg _) (e := 3) rfl sL 0 rfl hL0 (fun b9 o9 cs hcs hR hcell => ?_)
          subst hR
          refine ld1 (cxg _) (i := 6) rfl (hcell 0 _ rfl) rfl ?_
          refine hq' _ _ ?_
          have hgd : L.getD 0 0 = L[0] := by rw [List.getD_eq_getElem?_getD, List.getElem?_eq_getElem hL0]; rfl
          rw [hgd] at hmi
          refine bsplitd (fun hc3 => ?_) (fun hc3 => ?_)
          · rw [decide_eq_true hc3] at hmi
            rw [hmi, if_pos rfl] at st
            refine callS (fun w' hm => kF w') ?_
            rintro _ _ ⟨oN, rfl, rfl, hoN⟩ hsat2
            have sN := OwnO.sl (f := fI) (fun _ => rfl) (by decide) hoN
            have hjH : H.dj oN.h := hsat2.dj 4 7 rfl rfl (by decide)
            intro b130
            refine appO (f := fV) (cxg _) (e := 35) rfl (i := 5) rfl hoM (j := 8) oN.v rfl rfl rfl rfl (by omega) (fun oM' hoM' => ?_)
            refine nw (by omega) (by omega) ?_
            refine ⟨(i + 1, oM', vs ++ [oN.v], H.join oN.h), ⟨by dsimp only; omega, hoM', ?_⟩, by dsimp only; omega, Ent.mk (fun _ _ h => Ok.pick [0, 2, 3, 4, 1, 5] rfl rfl (Ok.join (c := .hp (Hp.whole w)) (Ok.pick [0, 4, 7, 1, 2, 3, 5] rfl rfl h))) rfl rfl⟩
            dsimp only
            rw [st]
            exact (hrd.mono (Hp.le_join_l H oN.h)).push ⟨_, _, _, rfl, sN.mono (encF_mono _) (Hp.le_join_r hjH)⟩
          · rw [decide_eq_false hc3] at hmi
            rw [hmi, if_neg (by decide)] at st
            refine nw (by omega) (by omega) ?_
            exact ⟨(i + 1, oM, vs, H), ⟨by dsimp only; omega, hoM, by dsimp only; rw [st]; exact hrd⟩, by dsimp only; omega, Ent.mk (fun _ _ h => h.pick [0, 1, 2, 3, 4, 5] rfl rfl) rfl rfl⟩
        · refine hq' _ _ ?_
          rw [decide_eq_false hc2, Bool.false_and] at hmi
          rw [hmi, if_neg (by decide)] at st
          refine nw (by omega) (by omega) ?_
          exact ⟨(i + 1, oM, vs, H), ⟨by dsimp only; omega, hoM, by dsimp only; rw [st]; exact hrd⟩, by dsimp only; omega, Ent.mk (fun _ _ h => h.pick [0, 1, 2, 3, 4, 5] rfl rfl) rfl rfl⟩
      · refine hq' _ _ ?_
        rw [hc1, Bool.false_and, Bool.false_and] at hmi
        rw [hmi, if_neg (by decide)] at st
        refine nw (by omega) (by omega) ?_
        exact ⟨(i + 1, oM, vs, H), ⟨by dsimp only; omega, hoM, by dsimp only; rw [st]; exact hrd⟩, by dsimp only; omega, Ent.mk (fun _ _ h => h.pick [0, 1, 2, 3, 4, 5] rfl rfl) rfl rfl⟩
    · have hiM : i = M := by omega
      rw [hiM, ← hmeq] at hrd
      have sO := OwnO.sl (f := fV) (fun _ => rfl) (by decide) hoM
      refine call (fun w' hm => kM w' (sE.mono (encF_mono _) (hm 2 _ rfl))) ?_
      rintro _ _ ⟨aM, nM, cM, hMh, rfl, rfl, sM⟩
      have lM := sM.len
      refine hideQ (fun _ h => h _ _ ?_)
      refine normS [.hp (Hp.whole w), .box b3 [.int .u8 N, .slice a n c] 24, .hp o.h, .box b7 [.int .i64 M, .slice o.a o.n o.c] 28, .hp H, .hp oM.h, .hp hMh] rfl ?_
      refine callV _ (fun w' hm => kN w' (sE.mono (encF_mono _) (hm 2 _ rfl))) ?_
      refine hideQ (fun _ h => h _ _ ?_)
      refine normS [.hp (Hp.whole w), .box b3 [.int .u8 N, .slice a n c] 24, .hp o.h, .box b7 [.int .i64 M, .slice o.a o.n o.c] 28, .hp H, .hp oM.h, .hp hMh] rfl ?_
      refine nw (by omega) (by omega) ?_
      refine bsplitd (fun hM0 => ?_) (fun hM0 => ?_)
      · have hcv : cn = 1 := by rw [hcnt, if_pos (by omega)]
        refine hideQ (fun _ h => h _ _ ?_)
        refine normS [.hp (Hp.whole w), .box b3 [.int .u8 N, .slice a n c] 24, .hp o.h, .box b7 [.int .i64 M, .slice o.a o.n o.c] 28, .hp H, .hp oM.h, .hp hMh] rfl ?_
        refine hideQ (fun q' hq' => ?_)
        refine callV _ (fun w' hm => sameSets_spec w' (sM.mono (encS_mono (encF_mono _) _) (hm 6 _ rfl)) ((hrd.mono (hm 4 _ rfl)).slW (sO.mono (encF_mono _) (hm 5 _ rfl))) (by omega) hmRr) ?_
        refine dtrue rfl ?_
        refine dtrue hzc0 ?_
        refine dtrue hcv ?_
        refine hq' _ _ ?_
        exact ⟨[], ⟨by rw [decide_eq_true hzc0], rfl⟩, fun w' h => h.pick [0] rfl rfl⟩
      · have hcv : cn = (nK : Int) + 2 := by rw [hcnt, if_neg (by omega), lK]
        refine normS [.hp (Hp.whole w), .box b3 [.int .u8 N, .slice a n c] 24, .hp o.h, .box b7 [.int .i64 M, .slice o.a o.n o.c] 28, .hp H, .hp oM.h, .hp hMh] rfl ?_
        refine hideQ (fun q' hq' => ?_)
        refine callV _ (fun w' hm => sameSets_spec w' (sM.mono (encS_mono (encF_mono _) _) (hm 6 _ rfl)) ((hrd.mono (hm 4 _ rfl)).slW (sO.mono (encF_mono _) (hm 5 _ rfl))) (by omega) hmRr) ?_
        refine dtrue rfl ?_
        refine dtrue hzc0 ?_
        refine dtrue hcv ?_
        refine hq' _ _ ?_
        exact ⟨[], ⟨by rw [decide_eq_true hzc0], rfl⟩, fun w' h => h.pick [0] rfl rfl⟩
end Go.Proofs.YtbcjdjlihhlkaaaDoor
