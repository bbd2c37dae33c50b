/- The law GraphReaches returns true. Its premises are its arguments' form. -/
import Derived.Test.YtdjhgcpmipglfaaYM3
import Derived.Test.YtdjhgcpmipglfaaYP4
namespace Go.Proofs.Ytdjhgcpmipglfaa
open Go Go.RowKit Go.Dw
theorem qEqB {s : List Ch} {xo yo : Operand} {x y : Bool} {q : TV → Prop} (h : q (.v (.bool (x == y)))) :
    NeedQ Try.prog s (do eqGuard .eql 4 xo yo (.bool x) (.bool y); binOp .eql 4 (.bool x) (.bool y)) q := by
  refine ⟨_, fun w _ => ?_, h⟩
  have hun : (underlying 4).run Try.prog w = .ok .bool w := by simp [underlying, Try.underlying4]
  have hg : (eqGuard .eql 4 xo yo (.bool x) (.bool y)).run Try.prog w = .ok () w := by simp [eqGuard]
  rw [Sem.run_bind, hg]
  simp only [Result.andThen_ok, binOp, Sem.run_bind]
  have : (Op.equal 4 (.bool x) (.bool y)).run Try.prog w = .ok (x == y) w := by
    unfold Op.equal Op.maxDepth
    rw [show (10000 : Nat) = 9999 + 1 from rfl]
    unfold Op.equalIn
    simp only [Sem.run_bind, hun, Result.andThen_ok]
    cases x <;> cases y <;> rfl
  rw [this]
  rfl
set_option maxRecDepth 10000 in
theorem reaches_ok {a : Option Addr} {n c : Nat} {E : List (Int × Int)} (N : Int) (w : World) (hL : Sl (encF fE) 2 (Hp.whole w) a n c E) (u : Int) (_hu : 0 ≤ u ∧ u ≤ 255) :
    CallsE Try.prog 10 #[gv N a n c, .int .u8 u] w (RetV w (.bool true)) := by
  have hlen := hL.len
  refine enter (X := cx 83) (cxg _) (args := [.agg #[.int .i64 N, .slice a n c], .int .u8 u]) [.tmp 4] Try.func10 rfl rfl rfl rfl rfl ?_
  intro b2
  refine callV _ (fun w' _ => known_spec w') ?_
  refine callV _ (fun w' hm => fine_spec N w' (hL.mono (encF_mono _) (hm 0 _ rfl))) ?_
  refine bsplit (fun h1 => ?_) (fun h1 => ?_)
  · refine callV _ (fun w' _ => known_spec w') ?_
    exact ⟨[], ⟨rfl, rfl⟩, fun w' h => h.pick [0] rfl rfl⟩
  rw [Bool.not_eq_false'] at h1
  obtain ⟨M, rfl, hM8, hEl, hG, hs, h0⟩ := fineF_ok h1
  obtain ⟨z1, hz1⟩ : ∃ z : Int, z = readyF M E (chsK u M) := ⟨_, rfl⟩
  obtain ⟨z2, hz2⟩ : ∃ z : Int, z = checkF M E := ⟨_, rfl⟩
  obtain ⟨L, hLd⟩ : ∃ L, L = chsK u M := ⟨_, rfl⟩
  obtain ⟨R, hRd⟩ : ∃ R, R = reaK M E (chsK u M) M := ⟨_, rfl⟩
  obtain ⟨RR, hRRd⟩ : ∃ R, R = (List.range M).map fun x : Nat => reaK M E [(x : Int)] M := ⟨_, rfl⟩
  obtain ⟨c0, hc0⟩ : ∃ c : Bool, c = decide (R.length = L.length) := ⟨_, rfl⟩
  have q1 : z1 = 0 := by rw [hz1, ready_chs h0]
  have q2 : z2 = 0 := by rw [hz2, h0]
  have lL : L.length ≤ 8 := by rw [hLd]; have := chsK_len u M; omega
  have lR : R.length ≤ 8 := by rw [hRd]; have := reaK_len M E (chsK u M) M; omega
  have lRR : RR.length ≤ 8 := by rw [hRRd]; simp; omega
  have lRx : ∀ x ∈ RR, x.length < 1000000000 := fun x hx => by
    rw [hRRd] at hx
    obtain ⟨v, _, rfl⟩ := List.mem_map.1 hx
    have := reaK_len M E [(v : Int)] M; omega
  have kL : ∀ w : World, CallsE Try.prog 36 #[gv M a n c, .int .u8 u] w (Ret w fun v cs => ∃ o : Dw.Os, v = o.v ∧ cs = [.hp o.h] ∧ OwnO fI 3 1 o L) := fun w => by rw [hLd]; exact chosen_spec M hM8 u w
  have kR : ∀ {a a1 : Option Addr} {n c n1 c1 : Nat} (w : World), Sl (encF fE) 2 (Hp.whole w) a n c E → Sl (encF fI) 1 (Hp.whole w) a1 n1 c1 L → CallsE Try.prog 37 #[gv M a n c, .slice a1 n1 c1] w (RetI w R z1) := fun w h h' => by
    have := Reach_spec M w h h' (by omega)
    rw [hLd] at this
    unfold reaR at this
    rw [if_pos (by rw [ready_chs h0]), Int.toNat_natCast, lst_rchL] at this
    rw [hRd, hz1]; exact this
  have kC : ∀ {a : Option Addr} {n c : Nat} (w : World), Sl (encF fE) 2 (Hp.whole w) a n c E → CallsE Try.prog 62 #[gv M a n c] w (RetR w RR z2) := fun w h => by
    have := Closure_spec M w h
    unfold closR at this
    rw [if_pos h0, Int.toNat_natCast, closR_eq] at this
    rw [hRRd, hz2]; exact this
  have kD : ∀ {a a1 : Option Addr} {n c n1 c1 : Nat} (w : World), Sl (encF fE) 2 (Hp.whole w) a n c E → Sl (encF fI) 1 (Hp.whole w) a1 n1 c1 L → CallsE Try.prog 38 #[gv M a n c, .slice a1 n1 c1] w (RetV w (.tuple #[.bool c0, .int .i64 z1])) := fun w h h' => by
    have := Closed_spec M w h h' (by omega)
    rw [hLd] at this
    unfold cloR at this
    rw [if_pos (by rw [ready_chs h0]), closed_eq hG] at this
    rw [hc0, hRd, hLd, hz1]; exact this
  have rL : ∀ x ∈ L, 0 ≤ x ∧ x < (M : Int) := fun x hx => by rw [hLd] at hx; exact chs_rng hx
  have kRR : ∀ {a a1 : Option Addr} {n c n1 c1 : Nat} (w : World), Sl (encF fE) 2 (Hp.whole w) a n c E → Sl (encF fI) 1 (Hp.whole w) a1 n1 c1 L → CallsE Try.prog 63 #[gv M a n c, .slice a1 n1 c1] w (Ret w fun v cs => ∃ o : Dw.Os, v = o.v ∧ cs = [.hp o.h] ∧ OwnO fI 3 1 o R) := fun w h h' => by
    have := RReach_spec M w h h' hG rL (by omega)
    rw [hRd, ← hLd]; exact this
  have kRC : ∀ {a : Option Addr} {n c : Nat} (w : World), Sl (encF fE) 2 (Hp.whole w) a n c E → CallsE Try.prog 64 #[gv M a n c] w (Ret w fun v cs => ∃ a' n' c' h, v = .slice a' n' c' ∧ cs = [.hp h] ∧ Sl (encS (encF fI) 1) 1 h a' n' c' RR) := fun w h => by
    rw [hRRd]; exact RClosure_spec M w h hG
  have kRD : ∀ {a a1 : Option Addr} {n c n1 c1 : Nat} (w : World), Sl (encF fE) 2 (Hp.whole w) a n c E → Sl (encF fI) 1 (Hp.whole w) a1 n1 c1 L → CallsE Try.prog 65 #[gv M a n c, .slice a1 n1 c1] w (RetV w (.bool c0)) := fun w h h' => by
    have := RClosed_spec M w h h' hG rL (by omega)
    rw [hc0, hRd, ← hLd]; exact this
  clear hz1 hz2 hLd hRd hRRd hc0
  refine call (fun w' _ => kL w') ?_
  rintro _ _ ⟨oL, rfl, rfl, hoL⟩
  have sL := OwnO.sl (f := fI) (fun _ => rfl) (by decide) hoL
  refine hideQ (fun _ h => h _ _ ?_)
  refine normS [.hp (Hp.whole w), .box b2 [.int .i64 M, .slice a n c] 26, .hp oL.h] rfl ?_
  refine call (fun w' hm => copied_spec M w' (hL.mono (encF_mono _) (hm 0 _ rfl)) (by omega)) ?_
  rintro _ _ ⟨oC, rfl, rfl, hoC⟩
  have sC := OwnO.sl (f := fE) (fun _ => rfl) (by decide) hoC
  have nC := hoC.len
  intro b6
  refine hideQ (fun _ h => h _ _ ?_)
  refine normS [.hp (Hp.whole w), .box b2 [.int .i64 M, .slice a n c] 26, .hp oL.h, .hp oC.h, .box b6 [.int .i64 M, .slice oC.a oC.n oC.c] 26] rfl ?_
  refine call (fun w' hm => kR w' (sC.mono (encF_mono _) (hm 3 _ rfl)) (sL.mono (encF_mono _) (hm 2 _ rfl))) ?_
  rintro _ _ ⟨oA, rfl, rfl, hoA⟩
  have sA := OwnO.sl (f := fI) (fun _ => rfl) (by decide) hoA
  have nA := hoA.len
  refine hideQ (fun _ h => h _ _ ?_)
  refine normS [.hp (Hp.whole w), .box b2 [.int .i64 M, .slice a n c] 26, .hp oL.h, .hp oC.h, .box b6 [.int .i64 M, .slice oC.a oC.n oC.c] 26, .hp oA.h] rfl ?_
  refine call (fun w' hm => kC w' (sC.mono (encF_mono _) (hm 3 _ rfl))) ?_
  rintro _ _ ⟨aB, nB, cB, hB, rfl, rfl, sB⟩
  have nB' := sB.len
  refine hideQ (fun _ h => h _ _ ?_)
  refine normS [.hp (Hp.whole w), .box b2 [.int .i64 M, .slice a n c] 26, .hp oL.h, .hp oC.h, .box b6 [.int .i64 M, .slice oC.a oC.n oC.c] 26, .hp oA.h, .hp hB] rfl ?_
  refine callV _ (fun w' hm => kD w' (sC.mono (encF_mono _) (hm 3 _ rfl)) (sL.mono (encF_mono _) (hm 2 _ rfl))) ?_
  refine hideQ (fun _ h => h _ _ ?_)
  refine normS [.hp (Hp.whole w), .box b2 [.int .i64 M, .slice a n c] 26, .hp oL.h, .hp oC.h, .box b6 [.int .i64 M, .slice oC.a oC.n oC.c] 26, .hp oA.h, .hp hB] rfl ?_
  refine call (fun w' hm => plain_spec M w' (hL.mono (encF_mono _) (hm 0 _ rfl)) (by omega)) ?_
  rintro _ _ ⟨oQ, rfl, rfl, hoQ⟩
  have sQ := OwnO.sl (f := fE) (fun _ => rfl) (by decide) hoQ
  intro b13
  refine hideQ (fun _ h => h _ _ ?_)
  refine normS [.hp (Hp.whole w), .box b2 [.int .i64 M, .slice a n c] 26, .hp oL.h, .hp oC.h, .box b6 [.int .i64 M, .slice oC.a oC.n oC.c] 26, .hp oA.h, .hp hB, .hp oQ.h, .box b13 [.int .i64 M, .slice oQ.a oQ.n oQ.c] 35] rfl ?_
  refine hideQ (fun q' hq' => ?_)
  refine hideK 3 (fun qq k1 => ?_)
  refine k1 _ _ ?_
  refine hideK 4 (fun qq k1 => ?_)
  refine dtrue q1 ?_
  refine k1 _ _ ?_
  refine hideK 4 (fun qq k1 => ?_)
  refine dtrue q2 ?_
  refine k1 _ _ ?_
  refine hideK 7 (fun qq k1 => ?_)
  refine dtrue q1 ?_
  refine call (fun w' hm => kRR w' (sQ.mono (encF_mono _) (hm 7 _ rfl)) (sL.mono (encF_mono _) (hm 2 _ rfl))) ?_
  rintro _ _ ⟨oR, rfl, rfl, hoR⟩
  have sR := OwnO.sl (f := fI) (fun _ => rfl) (by decide) hoR
  refine callV _ (fun w' hm => equalInts_spec w' (sA.mono (encF_mono _) (hm 5 _ rfl)) (sR.mono (encF_mono _) (hm 9 _ rfl)) (by omega)) ?_
  refine k1 _ _ ?_
  refine normS [.hp (Hp.whole w), .box b2 [.int .i64 M, .slice a n c] 26, .hp oL.h, .hp oC.h, .box b6 [.int .i64 M, .slice oC.a oC.n oC.c] 26, .hp oA.h, .hp hB, .hp oQ.h, .box b13 [.int .i64 M, .slice oQ.a oQ.n oQ.c] 35, .hp oR.h] rfl ?_
  refine hideK 6 (fun qq k1 => ?_)
  refine dtrue rfl ?_
  refine call (fun w' hm => kRC w' (sQ.mono (encF_mono _) (hm 7 _ rfl))) ?_
  rintro _ _ ⟨aK, nK, cK, hK, rfl, rfl, sK⟩
  refine callV _ (fun w' hm => lists_spec w' (sB.mono (encS_mono (encF_mono _) _) (hm 6 _ rfl)) (sK.mono (encS_mono (encF_mono _) _) (hm 10 _ rfl)) (by omega) lRx) ?_
  refine k1 _ _ ?_
  refine normS [.hp (Hp.whole w), .box b2 [.int .i64 M, .slice a n c] 26, .hp oL.h, .hp oC.h, .box b6 [.int .i64 M, .slice oC.a oC.n oC.c] 26, .hp oA.h, .hp hB, .hp oQ.h, .box b13 [.int .i64 M, .slice oQ.a oQ.n oQ.c] 35, .hp oR.h, .hp hK] rfl ?_
  refine hideK 7 (fun qq k1 => ?_)
  refine dtrue rfl ?_
  refine callV _ (fun w' hm => kRD w' (sQ.mono (encF_mono _) (hm 7 _ rfl)) (sL.mono (encF_mono _) (hm 2 _ rfl))) ?_
  refine qEqB ?_
  refine k1 _ _ ?_
  refine hideK 8 (fun qq k1 => ?_)
  refine btrue (b := c0 == c0) (by simp) ?_
  refine callV _ (fun w' hm => equalEdges_spec w' (sC.mono (encF_mono _) (hm 3 _ rfl)) (hL.mono (encF_mono _) (hm 0 _ rfl)) (by omega)) ?_
  refine k1 _ _ ?_
  refine hq' _ _ ?_
  exact ⟨[], ⟨by rw [decide_eq_true rfl], rfl⟩, fun w' h => h.pick [0] rfl rfl⟩
end Go.Proofs.Ytdjhgcpmipglfaa
