/- The law GraphAcyclic returns true. Its premises are its arguments' form. -/
import Derived.Test.YtdjhgcpmipglfaaYM8
import Derived.Test.YtdjhgcpmipglfaaYDwk
import Derived.Test.YtdjhgcpmipglfaaYP6
namespace Go.Proofs.Ytdjhgcpmipglfaa
open Go Go.RowKit Go.Dw
theorem acyc1_spec {aD : Option Addr} {nD cD : Nat} {D : List Int} (b : Nat) (x : Int × Int) (w : World) (hD : Sl (encF fI) 1 (Hp.whole w) aD nD cD D) (hl : D.length < 1000000) (hp : w.cell? ⟨b, 0, none⟩ = some (.slice aD nD cD)) :
    CallsE Try.prog 59 #[.agg #[.int .i64 x.1, .int .i64 x.2], .pointer (some ⟨b, 0, none⟩)] w (RetV w (.bool (decide (idxOf x.2 D ≤ idxOf x.1 D)))) := by
  have hlen := hD.len
  refine enter (X := cx 13) (cxg _) (args := [.agg #[.int .i64 x.1, .int .i64 x.2], .pointer (some ⟨b, 0, none⟩)]) [.tmp 3] Try.func59 rfl rfl rfl rfl rfl ?_
  intro b2
  refine NeedD.by_order (cxg _) (.take 0 <| .take 1 <| .take 2 <| .take 4 <| .take 5 <| .take 6 <| .run 3 <| .run 7 <| .take 8 <| .take 9 <| .done) (by kernel_rfl) ?_
  refine ld1 (cxg _) (i := 0) rfl (h := Hp.whole w) hp rfl ?_
  refine ld1 (cxg _) (i := 0) rfl (h := Hp.whole w) hp rfl ?_
  refine callV _ (fun w' hm => indexInts_spec x.1 w' (hD.mono (encF_mono _) (hm 0 _ rfl)) (by omega)) ?_
  refine ⟨(by repeat first | exact trivial | refine ⟨.inl rfl, ?_⟩ | refine ⟨.inr rfl, ?_⟩), ?_⟩
  refine callV _ (fun w' hm => indexInts_spec x.2 w' (hD.mono (encF_mono _) (hm 0 _ rfl)) (by omega)) ?_
  refine ⟨(by repeat first | exact trivial | refine ⟨.inl rfl, ?_⟩ | refine ⟨.inr rfl, ?_⟩), ?_⟩
  exact ⟨[], ⟨rfl, rfl⟩, fun w' h => h.pick [0] rfl rfl⟩
theorem acyc_cases {M : Nat} {E : List (Int × Int)} (hG : Gr M E) (h0 : checkF M E = 0) : ((ordC M E = 0 ∧ cycC M E = 10 ∧ (ordR M E).length = M ∧ (E.any fun x => decide (idxOf x.2 (ordR M E) ≤ idxOf x.1 (ordR M E))) = false) ∨ (ordC M E = 30 ∧ cycC M E = 0 ∧ (ordR M E).length ≤ 64 ∧ IsCyc E (cycR M E))) ∧ (cycR M E).length ≤ 65 := by
  have e1 : ordC M E = (match ordK M E M with | none => 30 | some _ => 0) := by unfold ordC; rw [if_pos h0]; rfl
  have e2 : cycC M E = (match cycK M E E with | none => 10 | some _ => 0) := by unfold cycC; rw [if_pos h0]; rfl
  have e3 : ordR M E = (ordK M E M).getD [] := by unfold ordR; rw [if_pos h0]; rfl
  have e4 : cycR M E = (cycK M E E).getD [] := by unfold cycR; rw [if_pos h0]; rfl
  have hlen : (cycR M E).length ≤ 65 := by
    rw [e4]
    cases hc : cycK M E E with
    | none => simp
    | some C => exact cycK_len hG.hN _ none (fun _ h => by cases h) C hc
  refine ⟨?_, hlen⟩
  rw [e1, e2, e3, e4]
  cases hk : ordK M E M with
  | some D =>
    have hc := cyc_none.2 (ord_cyc hG hk)
    rw [hc]
    refine .inl ⟨rfl, rfl, ordK_len M D hk, ?_⟩
    rw [List.any_eq_false]
    intro e he
    have := ord_idx hG (ordK_inv M hk) (ordK_len M D hk) he
    simp only [Option.getD_some, decide_eq_true_eq]
    omega
  | none =>
    cases hc : cycK M E E with
    | none => exact absurd ((ord_none hG).1 hk) (cyc_none.1 hc)
    | some C => exact .inr ⟨rfl, rfl, by simp, cyc_is hG hc⟩
set_option maxRecDepth 10000 in
theorem acyclic_ok {a : Option Addr} {n c : Nat} {E : List (Int × Int)} (N : Int) (w : World) (hL : Sl (encF fE) 2 (Hp.whole w) a n c E) :
    CallsE Try.prog 9 #[gv N a n c] w (RetV w (.bool true)) := by
  have hlen := hL.len
  refine enter (X := cx 118) (cxg _) (args := [.agg #[.int .i64 N, .slice a n c]]) [.tmp 2] Try.func9 rfl rfl rfl rfl rfl ?_
  intro b1
  refine callV _ (fun w' _ => known_spec w') ?_
  refine callV _ (fun w' hm => fine_spec N w' (hL.mono (encF_mono _) (hm 0 _ rfl))) ?_
  refine bsplit (fun h1 => ?_) (fun h1 => ?_)
  · refine callV _ (fun w' _ => known_spec w') ?_
    exact ⟨[], ⟨rfl, rfl⟩, fun w' h => h.pick [0] rfl rfl⟩
  rw [Bool.not_eq_false'] at h1
  obtain ⟨M, rfl, hM8, hEl, hG, hs, h0⟩ := fineF_ok h1
  obtain ⟨hcase, hCl⟩ := acyc_cases hG h0
  have kO : ∀ {a : Option Addr} {n c : Nat} (w : World), Sl (encF fE) 2 (Hp.whole w) a n c E → CallsE Try.prog 32 #[gv M a n c] w (RetI w (ordR M E) (ordC M E)) := fun w h => Order_spec M w h
  have kC : ∀ {a : Option Addr} {n c : Nat} (w : World), Sl (encF fE) 2 (Hp.whole w) a n c E → CallsE Try.prog 33 #[gv M a n c] w (RetI w (cycR M E) (cycC M E)) := fun w h => Cycle_spec M w h
  obtain ⟨K0, hK0⟩ : ∃ k, k = (conR M E).1 := ⟨_, rfl⟩
  obtain ⟨KE, hKE⟩ : ∃ k, k = (conR M E).2.1 := ⟨_, rfl⟩
  obtain ⟨KF, hKF⟩ : ∃ k, k = (conR M E).2.2 := ⟨_, rfl⟩
  obtain ⟨z3, hz3⟩ : ∃ k, k = checkF M E := ⟨_, rfl⟩
  have kD : ∀ {a : Option Addr} {n c : Nat} (w : World), Sl (encF fE) 2 (Hp.whole w) a n c E → CallsE Try.prog 46 #[gv M a n c] w (Ret w fun v cs => ∃ o o2 : Dw.Os, v = .tuple #[gv K0 o.a o.n o.c, o2.v, .int .i64 z3] ∧ cs = [.hp o.h, .hp o2.h] ∧ OwnO fE 32 2 o KE ∧ OwnO fI 3 1 o2 KF) := fun w h => by
    rw [hK0, hKE, hKF, hz3]; exact Condense_spec M w h
  obtain ⟨z4, hz4⟩ : ∃ z, z = ordC K0 KE := ⟨_, rfl⟩
  obtain ⟨X, hX⟩ : ∃ z, z = ordR K0 KE := ⟨_, rfl⟩
  have kX : ∀ {a : Option Addr} {n c : Nat} (w : World), Sl (encF fE) 2 (Hp.whole w) a n c KE → CallsE Try.prog 32 #[gv K0 a n c] w (RetI w X z4) := fun w h => by rw [hX, hz4]; exact Order_spec K0 w h
  have q3 : z3 = 0 := by rw [hz3, h0]
  have q4 : z4 = 0 := by
    have e : conR M E = ((condR M E).1, (condR M E).2.1, ofF M E) := by unfold conR; rw [if_pos h0]; rfl
    have hc := cond_check hG
    obtain ⟨D, hD⟩ := cond_acyc hG
    rw [hz4, hK0, hKE, e]
    unfold ordC
    dsimp only
    rw [if_pos hc, cond_eq hG, Int.toNat_natCast]
    rw [cond_eq hG] at hD
    dsimp only at hD ⊢
    rw [hD]
  obtain ⟨O, hO⟩ : ∃ k, k = ordR M E := ⟨_, rfl⟩
  obtain ⟨C, hC⟩ : ∃ k, k = cycR M E := ⟨_, rfl⟩
  obtain ⟨z1, hz1⟩ : ∃ k, k = ordC M E := ⟨_, rfl⟩
  obtain ⟨z2, hz2⟩ : ∃ k, k = cycC M E := ⟨_, rfl⟩
  rw [← hO, ← hC, ← hz1, ← hz2] at hcase
  rw [← hC] at hCl
  simp only [← hO, ← hC, ← hz1, ← hz2] at kO kC
  have hOl : O.length ≤ 64 := by
    rcases hcase with h | h
    · omega
    · exact h.2.2.1
  clear hO hC hz1 hz2 hK0 hKE hKF hz3 hz4 hX
  refine call (fun w' hm => kO w' (hL.mono (encF_mono _) (hm 0 _ rfl))) ?_
  rintro _ _ ⟨oO, rfl, rfl, hoO⟩
  have sO := OwnO.sl (f := fI) (fun _ => rfl) (by decide) hoO
  have nO := hoO.len
  intro b3
  refine hideQ (fun _ h => h _ _ ?_)
  refine normS [.hp (Hp.whole w), .box b1 [.int .i64 M, .slice a n c] 26, .hp oO.h, .box b3 [.slice oO.a oO.n oO.c] 42] rfl ?_
  refine call (fun w' hm => kC w' (hL.mono (encF_mono _) (hm 0 _ rfl))) ?_
  rintro _ _ ⟨oC, rfl, rfl, hoC⟩
  have sC := OwnO.sl (f := fI) (fun _ => rfl) (by decide) hoC
  have nC := hoC.len
  refine hideQ (fun _ h => h _ _ ?_)
  refine normS [.hp (Hp.whole w), .box b1 [.int .i64 M, .slice a n c] 26, .hp oO.h, .box b3 [.slice oO.a oO.n oO.c] 42, .hp oC.h] rfl ?_
  refine call (fun w' hm => kD w' (hL.mono (encF_mono _) (hm 0 _ rfl))) ?_
  rintro _ _ ⟨oE, oF, rfl, rfl, hoE, hoF⟩
  have sE := OwnO.sl (f := fE) (fun _ => rfl) (by decide) hoE
  intro b7
  refine hideQ (fun _ h => h _ _ ?_)
  refine normS [.hp (Hp.whole w), .box b1 [.int .i64 M, .slice a n c] 26, .hp oO.h, .box b3 [.slice oO.a oO.n oO.c] 42, .hp oC.h, .hp oE.h, .hp oF.h, .box b7 [.int .i64 K0, .slice oE.a oE.n oE.c] 26] rfl ?_
  refine call (fun w' hm => kX w' (sE.mono (encF_mono _) (hm 5 _ rfl))) ?_
  rintro _ _ ⟨oX, rfl, rfl, hoX⟩
  refine hideQ (fun _ h => h _ _ ?_)
  refine normS [.hp (Hp.whole w), .box b1 [.int .i64 M, .slice a n c] 26, .hp oO.h, .box b3 [.slice oO.a oO.n oO.c] 42, .hp oC.h, .hp oE.h, .hp oF.h, .box b7 [.int .i64 K0, .slice oE.a oE.n oE.c] 26, .hp oX.h] rfl ?_
  rcases hcase with ⟨q1, q2, hOM, hany⟩ | ⟨q1, q2, _, hcy⟩
  · refine hideQ (fun q' hq' => ?_)
    refine hideK 3 (fun qq k1 => ?_)
    refine k1 _ _ ?_
    refine hideK 4 (fun qq k1 => ?_)
    refine dfalse (fun h => h q3) ?_
    refine k1 _ _ ?_
    refine hideK 7 (fun qq k1 => ?_)
    refine dfalse (fun h => h q4) ?_
    refine qNeB ?_
    refine k1 _ _ ?_
    refine hideK 8 (fun qq k1 => ?_)
    refine bfalse (by rw [q1, q2]; rfl) ?_
    refine dfalse (fun h => h q1) ?_
    refine k1 _ _ ?_
    refine hideK 7 (fun qq k1 => ?_)
    refine dtrue (by omega) ?_
    refine k1 _ _ ?_
    refine hq' _ _ ?_
    refine dfalse (fun h => h q2) ?_
    refine normS [.hp (Hp.whole w), .box b1 [.int .i64 M, .slice a n c] 26, .hp oO.h, .box b3 [.slice oO.a oO.n oO.c] 42, .hp oC.h, .hp oE.h, .hp oF.h, .box b7 [.int .i64 K0, .slice oE.a oE.n oE.c] 26, .hp oX.h] rfl ?_
    refine dtrue q1 ?_
    refine normS [.hp (Hp.whole w), .box b1 [.int .i64 M, .slice a n c] 26, .hp oO.h, .box b3 [.slice oO.a oO.n oO.c] 42, .hp oC.h, .hp oE.h, .hp oF.h, .box b7 [.int .i64 K0, .slice oE.a oE.n oE.c] 26, .hp oX.h] rfl ?_
    refine dtrue (by omega) ?_
    refine callV _ (fun w' hm => containsFuncEdges_spec 59 (.pointer (some ⟨b3, 0, none⟩)) (fun x => decide (idxOf x.2 O ≤ idxOf x.1 O)) w' (hL.mono (encF_mono _) (hm 0 _ rfl)) (by omega) (fun w2 h2 x _ => acyc1_spec b3 x w2 ((sO.mono (encF_mono _) (hm 2 _ rfl)).mono (encF_mono _) h2) (by omega) ?_)) ?_
    · refine h2.cell (Hp.le.cell (hm 3 _ rfl) ?_)
      simp [Ch.h, Hp.cell?, Hp.one]
    exact ⟨[], ⟨by rw [hany]; rfl, rfl⟩, fun w' h => h.pick [0] rfl rfl⟩
  · refine hideQ (fun q' hq' => ?_)
    refine hideK 3 (fun qq k1 => ?_)
    refine k1 _ _ ?_
    refine hideK 4 (fun qq k1 => ?_)
    refine dfalse (fun h => h q3) ?_
    refine k1 _ _ ?_
    refine hideK 7 (fun qq k1 => ?_)
    refine dfalse (fun h => h q4) ?_
    refine qNeB ?_
    refine k1 _ _ ?_
    refine hideK 8 (fun qq k1 => ?_)
    refine bfalse (by rw [q1, q2]; rfl) ?_
    refine dtrue (by omega) ?_
    refine k1 _ _ ?_
    refine hideK 7 (fun qq k1 => ?_)
    refine dfalse (fun h => h q1) ?_
    refine dfalse (fun h => h q2) ?_
    refine k1 _ _ ?_
    refine hq' _ _ ?_
    refine normS [.hp (Hp.whole w), .box b1 [.int .i64 M, .slice a n c] 26, .hp oO.h, .box b3 [.slice oO.a oO.n oO.c] 42, .hp oC.h, .hp oE.h, .hp oF.h, .box b7 [.int .i64 K0, .slice oE.a oE.n oE.c] 26, .hp oX.h] rfl ?_
    refine dfalse (by omega) ?_
    refine normS [.hp (Hp.whole w), .box b1 [.int .i64 M, .slice a n c] 26, .hp oO.h, .box b3 [.slice oO.a oO.n oO.c] 42, .hp oC.h, .hp oE.h, .hp oF.h, .box b7 [.int .i64 K0, .slice oE.a oE.n oE.c] 26, .hp oX.h] rfl ?_
    refine NeedL.mk Nat (fun k => [(1, .bx 1 0), (5, .v oC.v), (86, .v oC.v), (87, .v (.int .i64 oC.n)), (88, .v (.int .i64 k))]) (fun _ => [.hp (Hp.whole w), .box b1 [.int .i64 M, .slice a n c] 26, .hp oC.h]) (fun k => k ≤ oC.n) (fun k => oC.n - k) 0 (Nat.zero_le _) (Ent.mk (fun _ _ h => h.pick [0, 1, 4] rfl rfl) rfl rfl) ?_
    rintro k hk
    refine bsplitd (fun hlt => ?_) (fun hge => ?_)
    · have hlt' : k < C.length := by omega
      have hpos := hcy.pos
      have hed := hcy.edge k hlt'
      have hdj := hcy.dj k hlt'
      have hp1 := fun w' (hm : (Hp.whole w).In w') => containsEdges_spec (C[k]'hlt') (C[(k + 1) % C.length]'(Nat.mod_lt _ hpos)) w' (hL.mono (encF_mono _) hm) (by omega)
      have hmod : (k + 1) % C.length < C.length := Nat.mod_lt _ hpos
      refine idx (cxg _) (e := 3) rfl sC k rfl hlt' (fun b o cs hcs hR hcell => ?_)
      subst hR
      refine ld1 (cxg _) (i := 2) rfl (hcell 0 _ rfl) rfl ?_
      refine hideQ (fun _ h => h _ _ ?_)
      refine hidD (fun q' hq' => ?_)
      refine NeedD.by_order (cxg _) (.take 0 <| .take 1 <| .take 2 <| .take 3 <| .take 4 <| .take 5 <| .take 6 <| .take 7 <| .take 8 <| .take 9 <| .take 10 <| .take 11 <| .run 12 <| .take 13 <| .take 14 <| .take 15 <| .take 16 <| .take 17 <| .take 18 <| .run 19 <| .take 20 <| .done) (by kernel_rfl) ?_
      refine nw (by omega) (by omega) ?_
      refine qRem (by omega) (by omega) ?_
      refine idx (cxg _) (e := 3) rfl sC ((k + 1) % C.length) (by rw [nC, Int.natCast_emod, Int.natCast_add]; rfl) hmod (fun b o cs hcs hR hcell => ?_)
      subst hR
      refine ld1 (cxg _) (i := 2) rfl (hcell 0 _ rfl) rfl ?_
      refine callV _ (fun w' hm => hp1 w' (hm 0 _ rfl)) ?_
      refine ⟨(by repeat first | exact trivial | refine ⟨.inl rfl, ?_⟩ | refine ⟨.inr rfl, ?_⟩), ?_⟩
      refine bfalse (by rw [decide_eq_true hed]; rfl) ?_
      refine slS (cxg _) (e := 3) rfl sC 0 k (.inl ⟨rfl, rfl⟩) (.inr ⟨_, _, rfl, rfl⟩) (Nat.zero_le _) (by omega) (fun a' hs' => ?_)
      have hp2 := fun w' (hm : oC.h.In w') => containsInts_spec (C[k]'hlt') w' (hs'.mono (encF_mono _) hm) (by omega)
      refine callV _ (fun w' hm => hp2 w' (hm 2 _ rfl)) ?_
      refine ⟨(by repeat first | exact trivial | refine ⟨.inl rfl, ?_⟩ | refine ⟨.inr rfl, ?_⟩), ?_⟩
      refine hq' _ _ ?_
      refine dfalse (by simpa using hdj) ?_
      refine nw (by omega) (by omega) ?_
      exact ⟨k + 1, by omega, by omega, Ent.mk (fun _ _ h => h.pick [0, 1, 2] rfl rfl) rfl rfl⟩
    · exact ⟨[], ⟨by rw [decide_eq_true]; have := hcy.pos; omega, rfl⟩, fun w' h => h.pick [0] rfl rfl⟩
end Go.Proofs.Ytdjhgcpmipglfaa
