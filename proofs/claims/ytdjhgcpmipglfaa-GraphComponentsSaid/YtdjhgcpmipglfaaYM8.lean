/- The law GraphLeaves returns true. Its premises are its arguments' form. -/
import Derived.Test.YtdjhgcpmipglfaaYM5
import Derived.Test.YtdjhgcpmipglfaaYP5
namespace Go.Proofs.Ytdjhgcpmipglfaa
open Go Go.RowKit Go.Dw
theorem qNeB {s : List Ch} {xo yo : Operand} {x y : Bool} {q : TV → Prop} (h : q (.v (.bool (x != y)))) :
    NeedQ Try.prog s (do eqGuard .neq 4 xo yo (.bool x) (.bool y); binOp .neq 4 (.bool x) (.bool y)) q := by
  refine ⟨_, fun w _ => ?_, h⟩
  have hun : (underlying 4).run Try.prog w = .ok .bool w := by simp [underlying, Try.underlying4]
  have hg : (eqGuard .neq 4 xo yo (.bool x) (.bool y)).run Try.prog w = .ok () w := by simp [eqGuard]
  rw [Sem.run_bind, hg]
  simp only [Result.andThen_ok, binOp, Sem.run_bind]
  have : (Op.equal 4 (.bool x) (.bool y)).run Try.prog w = .ok (x == y) w := by
    unfold Op.equal Op.maxDepth
    rw [show (10000 : Nat) = 9999 + 1 from rfl]
    unfold Op.equalIn
    simp only [Sem.run_bind, hun, Result.andThen_ok]
    cases x <;> cases y <;> rfl
  rw [this]
  rfl
theorem leaves2_spec {aR : Option Addr} {nR cR : Nat} {R : List Int} (b : Nat) (x : Int) (w : World) (hR : Sl (encF fI) 1 (Hp.whole w) aR nR cR R) (hl : R.length < 1000000) (hp : w.cell? ⟨b, 0, none⟩ = some (.slice aR nR cR)) :
    CallsE Try.prog 43 #[.int .i64 x, .pointer (some ⟨b, 0, none⟩)] w (RetV w (.bool (!decide (x ∈ R)))) := by
  have hlen := hR.len
  refine enter (X := cx 8) (cxg _) (args := [.int .i64 x, .pointer (some ⟨b, 0, none⟩)]) [.tmp 3] Try.func43 rfl rfl rfl rfl rfl ?_
  refine ld1 (cxg _) (i := 0) rfl (h := Hp.whole w) hp rfl ?_
  refine callV _ (fun w' hm => containsInts_spec x w' (hR.mono (encF_mono _) (hm 0 _ rfl)) (by omega)) ?_
  exact ⟨[], ⟨rfl, rfl⟩, fun w' h => h⟩
theorem leaves1_spec {aR a : Option Addr} {nR cR n c : Nat} {R L : List Int} (b : Nat) (w : World) (hL : Sl (encF fI) 1 (Hp.whole w) a n c L) (hR : Sl (encF fI) 1 (Hp.whole w) aR nR cR R) (hl : R.length < 1000000) (hn : n < 1000000) (hp : w.cell? ⟨b, 0, none⟩ = some (.slice aR nR cR)) :
    CallsE Try.prog 41 #[.slice a n c, .pointer (some ⟨b, 0, none⟩)] w (RetV w (.bool (decide ((0 : Int) < L.length) && !(L.any fun v => !decide (v ∈ R))))) := by
  have hlen := hL.len
  refine enter (X := cx 13) (cxg _) (args := [.slice a n c, .pointer (some ⟨b, 0, none⟩)]) [.tmp 3] Try.func41 rfl rfl rfl rfl rfl ?_
  refine bsplitd (fun h => ?_) (fun h => ?_)
  · refine callV _ (fun w' hm => containsFuncInts_spec 43 (.pointer (some ⟨b, 0, none⟩)) (fun v => !decide (v ∈ R)) w' (hL.mono (encF_mono _) (hm 0 _ rfl)) (by omega) (fun w2 h2 x _ => leaves2_spec b x w2 ((hR.mono (encF_mono _) (hm 0 _ rfl)).mono (encF_mono _) h2) hl ?_)) ?_
    · exact h2.cell (Hp.le.cell (hm 0 _ rfl) hp)
    exact ⟨[], ⟨by rw [show decide ((0 : Int) < L.length) = true from decide_eq_true (by omega)]; rfl, rfl⟩, fun w' h => h⟩
  · exact ⟨[], ⟨by rw [show decide ((0 : Int) < L.length) = false from decide_eq_false (by omega)]; rfl, rfl⟩, fun w' h => h⟩
theorem cls_len (N : Nat) (E : List (Int × Int)) (k : Nat) : (cls N E k).length ≤ N := by
  unfold cls; rw [List.length_map]; exact Nat.le_trans (List.length_filter_le _ _) (by simp)
theorem sinkF_row {N : Nat} {E : List (Int × Int)} {s : List Int} (h : s ∈ sinkF N E) : s.length ≤ N := by
  unfold sinkF sinkK at h
  obtain ⟨k, _, rfl⟩ := List.mem_map.1 h
  unfold compF
  rw [List.getD_eq_getElem?_getD, List.getElem?_map]
  cases (reps N E N)[k]? with
  | none => simp
  | some r => exact cls_len N E r
set_option maxRecDepth 10000 in
theorem leaves_ok {a : Option Addr} {n c : Nat} {E : List (Int × Int)} (N : Int) (w : World) (hL : Sl (encF fE) 2 (Hp.whole w) a n c E) (u : Int) (_hu : 0 ≤ u ∧ u ≤ 255) :
    CallsE Try.prog 6 #[gv N a n c, .int .u8 u] w (RetV w (.bool true)) := by
  have hlen := hL.len
  refine enter (X := cx 82) (cxg _) (args := [.agg #[.int .i64 N, .slice a n c], .int .u8 u]) [.tmp 4] Try.func6 rfl rfl rfl rfl rfl ?_
  intro b2
  refine callV _ (fun w' _ => known_spec w') ?_
  refine callV _ (fun w' hm => fine_spec N w' (hL.mono (encF_mono _) (hm 0 _ rfl))) ?_
  refine bsplit (fun h1 => ?_) (fun h1 => ?_)
  · refine callV _ (fun w' _ => known_spec w') ?_
    exact ⟨[], ⟨rfl, rfl⟩, fun w' h => h.pick [0] rfl rfl⟩
  rw [Bool.not_eq_false'] at h1
  obtain ⟨M, rfl, hM8, hEl, hG, hs, h0⟩ := fineF_ok h1
  obtain ⟨z1, hz1⟩ : ∃ z : Int, z = readyF M E (chsK u M) := ⟨_, rfl⟩
  obtain ⟨z2, hz2⟩ : ∃ z : Int, z = checkF M E := ⟨_, rfl⟩
  obtain ⟨L, hLd⟩ : ∃ L, L = chsK u M := ⟨_, rfl⟩
  obtain ⟨R, hRd⟩ : ∃ R, R = reaK M E (chsK u M) M := ⟨_, rfl⟩
  obtain ⟨z3, hz3⟩ : ∃ z : Int, z = readyF M E R := ⟨_, rfl⟩
  obtain ⟨SS, hSd⟩ : ∃ R, R = sinkF M E := ⟨_, rfl⟩
  obtain ⟨cI, hcI⟩ : ∃ c : Bool, c = cloR M E R := ⟨_, rfl⟩
  obtain ⟨cO, hcO⟩ : ∃ c : Bool, c = decide (R = L) := ⟨_, rfl⟩
  have rL : ∀ x ∈ L, 0 ≤ x ∧ x < (M : Int) := fun x hx => by rw [hLd] at hx; exact chs_rng hx
  have q1 : z1 = 0 := by rw [hz1, ready_chs h0]
  have q2 : z2 = 0 := by rw [hz2, h0]
  have q3 : z3 = 0 := by rw [hz3, hRd]; exact ready_cast h0 _
  have qI : cI = true := by
    rw [hcI]; unfold cloR
    rw [if_pos (by rw [← hz3]; exact q3), hRd, rea_leaves hG fun x hx => by rw [← hLd] at hx; exact rL x hx]; rfl
  have qO : (cO != decide (R = L)) = false := by rw [hcO]; simp
  have qS : (SS.any fun s => ((decide ((0 : Int) < (s.length : Int))) && !(s.any fun v => !decide (v ∈ R)))) = decide ((0 : Int) < (R.length : Int)) := by
    rw [hSd, hRd]; exact sink_any hG fun x hx => by rw [← hLd] at hx; exact rL x hx
  have lL : L.length ≤ 8 := by rw [hLd]; have := chsK_len u M; omega
  have lR : R.length ≤ 8 := by rw [hRd]; have := reaK_len M E (chsK u M) M; omega
  have lS : SS.length < 1000000 := by rw [hSd]; have := sinkK_len M E (compF M E).length; rw [comp_len] at this; have := reps_len M E M; unfold sinkF; rw [comp_len]; omega
  have lSx : ∀ x ∈ SS, x.length < 1000000 := fun x hx => by rw [hSd] at hx; have := sinkF_row hx; omega
  have kL : ∀ w : World, CallsE Try.prog 36 #[gv M a n c, .int .u8 u] w (Ret w fun v cs => ∃ o : Dw.Os, v = o.v ∧ cs = [.hp o.h] ∧ OwnO fI 3 1 o L) := fun w => by rw [hLd]; exact chosen_spec M hM8 u w
  have kR : ∀ {a a1 : Option Addr} {n c n1 c1 : Nat} (w : World), Sl (encF fE) 2 (Hp.whole w) a n c E → Sl (encF fI) 1 (Hp.whole w) a1 n1 c1 L → CallsE Try.prog 37 #[gv M a n c, .slice a1 n1 c1] w (RetI w R z1) := fun w h h' => by
    have := Reach_spec M w h h' (by omega)
    rw [hLd] at this
    unfold reaR at this
    rw [if_pos (by rw [ready_chs h0]), Int.toNat_natCast, lst_rchL] at this
    rw [hRd, hz1]; exact this
  have kI : ∀ {a a1 : Option Addr} {n c n1 c1 : Nat} (w : World), Sl (encF fE) 2 (Hp.whole w) a n c E → Sl (encF fI) 1 (Hp.whole w) a1 n1 c1 R → CallsE Try.prog 38 #[gv M a n c, .slice a1 n1 c1] w (RetV w (.tuple #[.bool cI, .int .i64 z3])) := fun w h h' => by
    rw [hcI, hz3]; exact Closed_spec M w h h' (by omega)
  have kO : ∀ {a a1 : Option Addr} {n c n1 c1 : Nat} (w : World), Sl (encF fE) 2 (Hp.whole w) a n c E → Sl (encF fI) 1 (Hp.whole w) a1 n1 c1 L → CallsE Try.prog 38 #[gv M a n c, .slice a1 n1 c1] w (RetV w (.tuple #[.bool cO, .int .i64 z1])) := fun w h h' => by
    have := Closed_spec M w h h' (by omega)
    rw [hLd] at this
    unfold cloR at this
    rw [if_pos (by rw [ready_chs h0]), own_eq hG] at this
    rw [hcO, hRd, hLd, hz1]; exact this
  have kS : ∀ {a : Option Addr} {n c : Nat} (w : World), Sl (encF fE) 2 (Hp.whole w) a n c E → CallsE Try.prog 39 #[gv M a n c] w (RetR w SS z2) := fun w h => by
    have := Sinks_spec M w h
    unfold sinkR at this
    rw [if_pos h0, Int.toNat_natCast] at this
    rw [hSd, hz2]; exact this
  clear hz1 hz2 hz3 hLd hRd hSd hcI hcO
  refine call (fun w' _ => kL w') ?_
  rintro _ _ ⟨oL, rfl, rfl, hoL⟩
  have sL := OwnO.sl (f := fI) (fun _ => rfl) (by decide) hoL
  refine hideQ (fun _ h => h _ _ ?_)
  refine normS [.hp (Hp.whole w), .box b2 [.int .i64 M, .slice a n c] 26, .hp oL.h] rfl ?_
  refine call (fun w' hm => kR w' (hL.mono (encF_mono _) (hm 0 _ rfl)) (sL.mono (encF_mono _) (hm 2 _ rfl))) ?_
  rintro _ _ ⟨oA, rfl, rfl, hoA⟩
  have sA := OwnO.sl (f := fI) (fun _ => rfl) (by decide) hoA
  have nA := hoA.len
  intro b6
  refine hideQ (fun _ h => h _ _ ?_)
  refine normS [.hp (Hp.whole w), .box b2 [.int .i64 M, .slice a n c] 26, .hp oL.h, .hp oA.h, .box b6 [.slice oA.a oA.n oA.c] 42] rfl ?_
  refine callV _ (fun w' hm => kI w' (hL.mono (encF_mono _) (hm 0 _ rfl)) (sA.mono (encF_mono _) (hm 3 _ rfl))) ?_
  refine hideQ (fun _ h => h _ _ ?_)
  refine normS [.hp (Hp.whole w), .box b2 [.int .i64 M, .slice a n c] 26, .hp oL.h, .hp oA.h, .box b6 [.slice oA.a oA.n oA.c] 42] rfl ?_
  refine callV _ (fun w' hm => kO w' (hL.mono (encF_mono _) (hm 0 _ rfl)) (sL.mono (encF_mono _) (hm 2 _ rfl))) ?_
  refine hideQ (fun _ h => h _ _ ?_)
  refine normS [.hp (Hp.whole w), .box b2 [.int .i64 M, .slice a n c] 26, .hp oL.h, .hp oA.h, .box b6 [.slice oA.a oA.n oA.c] 42] rfl ?_
  refine call (fun w' hm => kS w' (hL.mono (encF_mono _) (hm 0 _ rfl))) ?_
  rintro _ _ ⟨aS, nS, cS, hS, rfl, rfl, sS⟩
  have nS' := sS.len
  refine hideQ (fun _ h => h _ _ ?_)
  refine normS [.hp (Hp.whole w), .box b2 [.int .i64 M, .slice a n c] 26, .hp oL.h, .hp oA.h, .box b6 [.slice oA.a oA.n oA.c] 42, .hp hS] rfl ?_
  refine hideQ (fun q' hq' => ?_)
  refine hideK 3 (fun qq k1 => ?_)
  refine k1 _ _ ?_
  refine hideK 4 (fun qq k1 => ?_)
  refine dfalse (fun h => h q1) ?_
  refine k1 _ _ ?_
  refine hideK 4 (fun qq k1 => ?_)
  refine dfalse (fun h => h q3) ?_
  refine k1 _ _ ?_
  refine hideK 4 (fun qq k1 => ?_)
  refine dfalse (fun h => h q1) ?_
  refine k1 _ _ ?_
  refine hideK 4 (fun qq k1 => ?_)
  refine dfalse (fun h => h q2) ?_
  refine k1 _ _ ?_
  refine hideK 6 (fun qq k1 => ?_)
  refine bfalse (b := !cI) (by rw [qI]; rfl) ?_
  refine callV _ (fun w' hm => equalInts_spec w' (sA.mono (encF_mono _) (hm 3 _ rfl)) (sL.mono (encF_mono _) (hm 2 _ rfl)) (by omega)) ?_
  refine qNeB ?_
  refine k1 _ _ ?_
  refine hq' _ _ ?_
  refine bfalse qO ?_
  refine normS [.hp (Hp.whole w), .box b2 [.int .i64 M, .slice a n c] 26, .hp oL.h, .hp oA.h, .box b6 [.slice oA.a oA.n oA.c] 42, .hp hS] rfl ?_
  refine callV _ (fun w' hm => containsFuncRows_spec 41 (.pointer (some ⟨b6, 0, none⟩)) (fun s => ((decide ((0 : Int) < (s.length : Int))) && !(s.any fun v => !decide (v ∈ R)))) w' (sS.mono (encS_mono (encF_mono _) _) (hm 5 _ rfl)) (by omega) (fun w2 h2 x hx a n c hs => leaves1_spec b6 w2 hs ((sA.mono (encF_mono _) (hm 3 _ rfl)).mono (encF_mono _) h2) (by omega) (by have := lSx x hx; have := hs.len; omega) ?_)) ?_
  · refine h2.cell (Hp.le.cell (hm 4 _ rfl) ?_)
    simp [Ch.h, Hp.cell?, Hp.one]
  rw [qS]
  refine hideQ (fun _ h => h _ _ ?_)
  refine normS [.hp (Hp.whole w), .box b2 [.int .i64 M, .slice a n c] 26, .hp oL.h, .hp oA.h, .box b6 [.slice oA.a oA.n oA.c] 42, .hp hS] rfl ?_
  refine qEqB ?_
  exact ⟨[], ⟨by rw [nA]; simp, rfl⟩, fun w' h => h.pick [0] rfl rfl⟩
end Go.Proofs.Ytdjhgcpmipglfaa
