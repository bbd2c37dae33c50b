/- The law RemovableHeld returns true. Its premises are its arguments' form and the table of math/bits. -/
import Derived.Test.YtbcjdjlihhlkaaaDoorXM
namespace Go.Proofs.YtbcjdjlihhlkaaaDoor
open Go Go.RowKit Go.Dw
theorem qEqB24 {s : List Ch} {xo yo : Operand} {x y : Bool} {q : TV → Prop} (h : q (.v (.bool (x == y)))) :
    NeedQ Tryd.prog s (do eqGuard .eql 4 xo yo (.bool x) (.bool y); binOp .eql 4 (.bool x) (.bool y)) q := by
  refine ⟨_, fun w _ => ?_, h⟩
  have hun : (underlying 4).run Tryd.prog w = .ok .bool w := by simp [underlying, Tryd.underlying4]
  have hg : (eqGuard .eql 4 xo yo (.bool x) (.bool y)).run Tryd.prog w = .ok () w := by simp [eqGuard]
  rw [Sem.run_bind, hg]
  simp only [Result.andThen_ok, binOp, Sem.run_bind]
  have : (Op.equal 4 (.bool x) (.bool y)).run Tryd.prog w = .ok (x == y) w := by
    unfold Op.equal Op.maxDepth
    rw [show (10000 : Nat) = 9999 + 1 from rfl]
    unfold Op.equalIn
    simp only [Sem.run_bind, hun, Result.andThen_ok]
    cases x <;> cases y <;> rfl
  rw [this]
  rfl
theorem range_all {p : Nat → Bool} (i : Nat) : (List.range (i + 1)).all p = ((List.range i).all p && p i) := by
  rw [List.range_succ, List.all_append, List.all_cons, List.all_nil, Bool.and_true]
set_option maxRecDepth 10000 in
theorem held24_ok {a : Option Addr} {n c : Nat} {U : List Int} (N : Int) (w : World) (hU : Sl (encF fY) 1 (Hp.whole w) a n c U) (hN : 0 ≤ N ∧ N ≤ 255) (hUr : ∀ u ∈ U, 0 ≤ u ∧ u ≤ 255) (u : Int) (hu : 0 ≤ u ∧ u ≤ 255) (v : Int) (hv : 0 ≤ v ∧ v ≤ 255) (hT : Tab (Hp.whole w)) :
    CallsE Tryd.prog 6 #[.agg #[.int .u8 N, .slice a n c], .int .u8 u, .int .u8 v] w (RetV w (.bool true)) := by
  obtain ⟨M, hM⟩ : ∃ M, M = N.toNat % 8 := ⟨_, rfl⟩
  have hM7 : M ≤ 7 := by omega
  obtain ⟨E, hEd⟩ : ∃ E, E = netE M U := ⟨_, rfl⟩
  have hG : Gr M E := hEd ▸ net_gr hM7 U
  have h0 : checkF M E = 0 := hEd ▸ net_check hM7 U
  obtain ⟨k, hk⟩ : ∃ k, k = u.toNat % 8 := ⟨_, rfl⟩
  obtain ⟨y, hy⟩ : ∃ y, y = v.toNat % (M + 1) := ⟨_, rfl⟩
  have hyM : y < M + 1 := by rw [hy]; exact Nat.mod_lt _ (by omega)
  obtain ⟨x, hx⟩ : ∃ x : Int, x = (y : Int) - 1 := ⟨_, rfl⟩
  have hr : resE M E k x = 0 := by
    unfold resE
    rw [if_neg (by rw [h0]; decide), if_neg (by omega)]
  have kG : ∀ w : World, Sl (encF fY) 1 (Hp.whole w) a n c U → CallsE Tryd.prog 10 #[.agg #[.int .u8 N, .slice a n c]] w (Ret w fun v cs => ∃ o : Dw.Os, v = gv M o.a o.n o.c ∧ cs = [.hp o.h] ∧ OwnO fE 58 2 o E) := fun w h => by
    rw [hEd, hM]; exact Net_spec N w h hN hUr
  obtain ⟨z, hz⟩ : ∃ z, z = resE M E k x := ⟨_, rfl⟩
  obtain ⟨hel, hhel⟩ : ∃ b, b = helF M E k x := ⟨_, rfl⟩
  refine enter (X := cx 96) (cxg _) (args := [.agg #[.int .u8 N, .slice a n c], .int .u8 u, .int .u8 v]) [.tmp 6] Tryd.func6 rfl rfl rfl rfl rfl ?_
  intro b3
  refine callV _ (fun w' hm => known24_spec w' (hT.mono (hm 0 _ rfl))) ?_
  refine call (fun w' hm => kG w' (hU.mono (encF_mono _) (hm 0 _ rfl))) ?_
  rintro _ _ ⟨o, rfl, rfl, ho⟩
  have sE := OwnO.sl (f := fE) (fun _ => rfl) (by decide) ho
  intro b7
  refine NeedD.by_order (cxg _) (.take 0 <| .take 1 <| .take 2 <| .take 3 <| .take 4 <| .take 5 <| .take 6 <| .take 7 <| .take 8 <| .take 9 <| .take 10 <| .take 11 <| .done) (by kernel_rfl) ?_
  refine qRemN u.toNat 8 (by omega) rfl (by decide) ?_
  rw [← hk]
  refine nw (by omega) (by omega) ?_
  refine nw (by omega) (by omega) ?_
  refine nw (by omega) (by omega) ?_
  refine qRemN v.toNat (M + 1) (by omega) (by omega) (by omega) ?_
  rw [← hy]
  refine nw (by omega) (by omega) ?_
  rw [← hx]
  have kH : ∀ {a : Option Addr} {n c : Nat} (w : World), Sl (encF fE) 2 (Hp.whole w) a n c E → Tab (Hp.whole w) → CallsE Tryd.prog 24 #[gv M a n c, .int .i64 k, .int .i64 x] w (RetV w (.tuple #[.bool hel, .int .i64 z])) := fun w h hT => by
    rw [hhel, hz]; exact Held_spec M k x w h hT
  refine callV _ (fun w' hm => kH w' (sE.mono (encF_mono _) (hm 2 _ rfl)) (hT.mono (hm 0 _ rfl))) ?_
  refine hideQ (fun _ h => h _ _ ?_)
  refine normS [.hp (Hp.whole w), .box b3 [.int .u8 N, .slice a n c] 24, .hp o.h, .box b7 [.int .i64 M, .slice o.a o.n o.c] 28] rfl ?_
  refine nw (by omega) (by omega) ?_
  refine bsplitd (fun hk0 => ?_) (fun hk0 => ?_)
  · refine qMin ?_
    obtain ⟨lim, hlim⟩ : ∃ l : Int, l = min ((M : Int) - 1) k := ⟨_, rfl⟩
    rw [← hlim]
    have hlf : lim = limF M k := by unfold limF; rw [if_pos hk0, hlim]
    refine NeedL.mk (Nat × Bool) (fun g => [(7, .bx 3 0), (8, .v (.int .i64 k)), (9, .v (.int .i64 x)), (10, .v (.bool hel)), (11, .v (.int .i64 z)), (12, .v (.int .i64 lim)), (13, .v (.bool g.2)), (14, .v (.int .i64 g.1))]) (fun _ => [.hp (Hp.whole w), .box b3 [.int .u8 N, .slice a n c] 24, .hp o.h, .box b7 [.int .i64 M, .slice o.a o.n o.c] 28])
      (fun g => g.1 ≤ M ∧ g.2 = (List.range g.1).all (outP M E lim x)) (fun g => M - g.1) (0, true) ⟨Nat.zero_le _, rfl⟩ (Ent.mk (fun _ _ h => h) rfl rfl) ?_
    rintro ⟨i, acc⟩ ⟨hi, hacc⟩
    dsimp only at *
    refine bsplitd (fun hlt => ?_) (fun hge => ?_)
    · have hi' : i < M := by omega
      have st := range_all (p := outP M E lim x) i
      rw [← hacc] at st
      obtain ⟨h, hh⟩ : ∃ h, h = hulv M E i := ⟨_, rfl⟩
      have hh63 : h < 9223372036854775808 := by have := bits_lt (hulv_rng hG hi'); rw [← hh] at this; have h7 := Nat.pow_le_pow_right (n := 2) (by decide) hM7; omega
      have kU : ∀ {a : Option Addr} {n c : Nat} (w : World), Sl (encF fE) 2 (Hp.whole w) a n c E → CallsE Tryd.prog 22 #[gv M a n c, .int .i64 (2 ^ i : Nat)] w (RetV w (.int .i64 h)) := fun w h' => by
        rw [hh, ← hulM_one hG hi']; exact modHull_spec M w h' hG (by omega) (2 ^ i) (pow_lt63 (by omega))
      have hout : outP M E lim x i = (decide ((i : Int) = x) || decide (((nod h).length : Int) > lim) || (decide (x ≥ 0) && decide (((h >>> x.toNat &&& 1 : Nat) : Int) = 1))) := by rw [hh]; rfl
      refine NeedD.cut Unit (fun _ => [(7, .bx 3 0), (8, .v (.int .i64 k)), (9, .v (.int .i64 x)), (10, .v (.bool hel)), (11, .v (.int .i64 z)), (12, .v (.int .i64 lim)), (13, .v (.bool acc)), (14, .v (.int .i64 i)), (15, .v (.int .i64 h))]) (fun _ => [.hp (Hp.whole w), .box b3 [.int .u8 N, .slice a n c] 24, .hp o.h, .box b7 [.int .i64 M, .slice o.a o.n o.c] 28]) (fun _ => True) (NeedD.by_order (cxg _) (.take 0 <| .take 1 <| .take 2 <| .run 3 <| .take 4 <| .done) (by kernel_rfl) ?_) ?_
      · refine qShlI i rfl rfl (by omega) ?_
        refine callV _ (fun w' hm => kU w' (sE.mono (encF_mono _) (hm 2 _ rfl))) ?_
        refine ⟨(by repeat first | exact trivial | refine ⟨.inl rfl, ?_⟩ | refine ⟨.inr rfl, ?_⟩), ?_⟩
        exact ⟨(), trivial, Ent.mk (fun _ _ h => h) rfl rfl⟩
      rintro ⟨⟩ _ _
      refine hideQ (fun q' hq' => ?_)
      refine bsplit (fun hac => ?_) (fun hac => ?_)
      · rw [hac, Bool.true_and] at st
        refine bsplitd (fun hix => ?_) (fun hix => ?_)
        · rw [decide_eq_true hix, Bool.true_or, Bool.true_or] at hout
          refine hq' _ _ ?_
          refine nw (by omega) (by omega) ?_
          exact ⟨(i + 1, true), ⟨by dsimp only; omega, by dsimp only; rw [st, hout]⟩, by dsimp only; omega, Ent.mk (fun _ _ h => h) rfl rfl⟩
        rw [decide_eq_false hix, Bool.false_or] at hout
        refine call (fun w' hm => modNodes_spec h hh63 w') ?_
        rintro _ _ ⟨oL, rfl, rfl, hoL⟩
        have ll := hoL.len
        refine bsplitd (fun hl => ?_) (fun hl => ?_)
        · rw [decide_eq_true (by omega), Bool.true_or] at hout
          refine hq' _ _ ?_
          refine nw (by omega) (by omega) ?_
          exact ⟨(i + 1, true), ⟨by dsimp only; omega, by dsimp only; rw [st, hout]⟩, by dsimp only; omega, Ent.mk (fun _ _ h => h.pick [0, 1, 2, 3] rfl rfl) rfl rfl⟩
        rw [decide_eq_false (by omega), Bool.false_or] at hout
        refine bsplitd (fun hx0 => ?_) (fun hx0 => ?_)
        · rw [decide_eq_true hx0, Bool.true_and] at hout
          refine qShrI h x.toNat rfl (by omega) (by omega) ?_
          refine qAndI (h >>> x.toNat) 1 rfl rfl (by have := shr_le h x.toNat; omega) (by decide) ?_
          refine hq' _ _ ?_
          refine nw (by omega) (by omega) ?_
          exact ⟨(i + 1, decide (((h >>> x.toNat &&& 1 : Nat) : Int) = 1)), ⟨by dsimp only; omega, by dsimp only; rw [st, hout]⟩, by dsimp only; omega, Ent.mk (fun _ _ h => h.pick [0, 1, 2, 3] rfl rfl) rfl rfl⟩
        · rw [decide_eq_false hx0, Bool.false_and] at hout
          refine hq' _ _ ?_
          refine nw (by omega) (by omega) ?_
          exact ⟨(i + 1, false), ⟨by dsimp only; omega, by dsimp only; rw [st, hout]⟩, by dsimp only; omega, Ent.mk (fun _ _ h => h.pick [0, 1, 2, 3] rfl rfl) rfl rfl⟩
      · rw [hac, Bool.false_and] at st
        refine hq' _ _ ?_
        refine nw (by omega) (by omega) ?_
        exact ⟨(i + 1, false), ⟨by dsimp only; omega, by dsimp only; rw [st]⟩, by dsimp only; omega, Ent.mk (fun _ _ h => h) rfl rfl⟩
    · have hfin : hel = acc := by rw [hacc, hhel, hel_eq hG hM7 hr, show i = M by omega, hlf]
      have hnone : hel = decide ((candF M E k x).length = 0) := by rw [hhel, hel_none hG hM7 hr]
      have kC : ∀ {a : Option Addr} {n c : Nat} (w : World), Sl (encF fE) 2 (Hp.whole w) a n c E → CallsE Tryd.prog 11 #[gv M a n c, .int .i64 k, .int .i64 x] w (Ret w fun v cs => ∃ a' n' c' h, v = .slice a' n' c' ∧ cs = [.hp h] ∧ Sl (encS (encF fI) 1) 1 h a' n' c' (candF M E k x)) := fun w h => modCand_spec M hM7 k x (by omega) w h hG
      refine normS [.hp (Hp.whole w), .box b3 [.int .u8 N, .slice a n c] 24, .hp o.h, .box b7 [.int .i64 M, .slice o.a o.n o.c] 28] rfl ?_
      refine hideQ (fun q' hq' => ?_)
      refine qEqB24 ?_
      refine btrue (by rw [hfin]; exact beq_self_eq_true acc) ?_
      refine call (fun w' hm => kC w' (sE.mono (encF_mono _) (hm 2 _ rfl))) ?_
      rintro _ _ ⟨aC, nC, cC, hC, rfl, rfl, sC⟩
      have lC := sC.len
      refine qEqB24 ?_
      refine btrue (by rw [hnone, decide_eq_decide.2 (show (candF M E k x).length = 0 ↔ (nC : Int) = 0 by omega)]; exact beq_self_eq_true _) ?_
      refine hq' _ _ ?_
      exact ⟨[], ⟨by rw [decide_eq_true (show z = 0 by rw [hz, hr])], rfl⟩, fun w' h => h.pick [0] rfl rfl⟩
  · obtain ⟨lim, hlim⟩ : ∃ l : Int, l = (M : Int) - 1 := ⟨_, rfl⟩
    rw [← hlim]
    have hlf : lim = limF M k := by unfold limF; rw [if_neg hk0, hlim]
    refine NeedL.mk (Nat × Bool) (fun g => [(7, .bx 3 0), (8, .v (.int .i64 k)), (9, .v (.int .i64 x)), (10, .v (.bool hel)), (11, .v (.int .i64 z)), (12, .v (.int .i64 lim)), (13, .v (.bool g.2)), (14, .v (.int .i64 g.1))]) (fun _ => [.hp (Hp.whole w), .box b3 [.int .u8 N, .slice a n c] 24, .hp o.h, .box b7 [.int .i64 M, .slice o.a o.n o.c] 28])
      (fun g => g.1 ≤ M ∧ g.2 = (List.range g.1).all (outP M E lim x)) (fun g => M - g.1) (0, true) ⟨Nat.zero_le _, rfl⟩ (Ent.mk (fun _ _ h => h) rfl rfl) ?_
    rintro ⟨i, acc⟩ ⟨hi, hacc⟩
    dsimp only at *
    refine bsplitd (fun hlt => ?_) (fun hge => ?_)
    · have hi' : i < M := by omega
      have st := range_all (p := outP M E lim x) i
      rw [← hacc] at st
      obtain ⟨h, hh⟩ : ∃ h, h = hulv M E i := ⟨_, rfl⟩
      have hh63 : h < 9223372036854775808 := by have := bits_lt (hulv_rng hG hi'); rw [← hh] at this; have h7 := Nat.pow_le_pow_right (n := 2) (by decide) hM7; omega
      have kU : ∀ {a : Option Addr} {n c : Nat} (w : World), Sl (encF fE) 2 (Hp.whole w) a n c E → CallsE Tryd.prog 22 #[gv M a n c, .int .i64 (2 ^ i : Nat)] w (RetV w (.int .i64 h)) := fun w h' => by
        rw [hh, ← hulM_one hG hi']; exact modHull_spec M w h' hG (by omega) (2 ^ i) (pow_lt63 (by omega))
      have hout : outP M E lim x i = (decide ((i : Int) = x) || decide (((nod h).length : Int) > lim) || (decide (x ≥ 0) && decide (((h >>> x.toNat &&& 1 : Nat) : Int) = 1))) := by rw [hh]; rfl
      refine NeedD.cut Unit (fun _ => [(7, .bx 3 0), (8, .v (.int .i64 k)), (9, .v (.int .i64 x)), (10, .v (.bool hel)), (11, .v (.int .i64 z)), (12, .v (.int .i64 lim)), (13, .v (.bool acc)), (14, .v (.int .i64 i)), (15, .v (.int .i64 h))]) (fun _ => [.hp (Hp.whole w), .box b3 [.int .u8 N, .slice a n c] 24, .hp o.h, .box b7 [.int .i64 M, .slice o.a o.n o.c] 28]) (fun _ => True) (NeedD.by_order (cxg _) (.take 0 <| .take 1 <| .take 2 <| .run 3 <| .take 4 <| .done) (by kernel_rfl) ?_) ?_
      · refine qShlI i rfl rfl (by omega) ?_
        refine callV _ (fun w' hm => kU w' (sE.mono (encF_mono _) (hm 2 _ rfl))) ?_
        refine ⟨(by repeat first | exact trivial | refine ⟨.inl rfl, ?_⟩ | refine ⟨.inr rfl, ?_⟩), ?_⟩
        exact ⟨(), trivial, Ent.mk (fun _ _ h => h) rfl rfl⟩
      rintro ⟨⟩ _ _
      refine hideQ (fun q' hq' => ?_)
      refine bsplit (fun hac => ?_) (fun hac => ?_)
      · rw [hac, Bool.true_and] at st
        refine bsplitd (fun hix => ?_) (fun hix => ?_)
        · rw [decide_eq_true hix, Bool.true_or, Bool.true_or] at hout
          refine hq' _ _ ?_
          refine nw (by omega) (by omega) ?_
          exact ⟨(i + 1, true), ⟨by dsimp only; omega, by dsimp only; rw [st, hout]⟩, by dsimp only; omega, Ent.mk (fun _ _ h => h) rfl rfl⟩
        rw [decide_eq_false hix, Bool.false_or] at hout
        refine call (fun w' hm => modNodes_spec h hh63 w') ?_
        rintro _ _ ⟨oL, rfl, rfl, hoL⟩
        have ll := hoL.len
        refine bsplitd (fun hl => ?_) (fun hl => ?_)
        · rw [decide_eq_true (by omega), Bool.true_or] at hout
          refine hq' _ _ ?_
          refine nw (by omega) (by omega) ?_
          exact ⟨(i + 1, true), ⟨by dsimp only; omega, by dsimp only; rw [st, hout]⟩, by dsimp only; omega, Ent.mk (fun _ _ h => h.pick [0, 1, 2, 3] rfl rfl) rfl rfl⟩
        rw [decide_eq_false (by omega), Bool.false_or] at hout
        refine bsplitd (fun hx0 => ?_) (fun hx0 => ?_)
        · rw [decide_eq_true hx0, Bool.true_and] at hout
          refine qShrI h x.toNat rfl (by omega) (by omega) ?_
          refine qAndI (h >>> x.toNat) 1 rfl rfl (by have := shr_le h x.toNat; omega) (by decide) ?_
          refine hq' _ _ ?_
          refine nw (by omega) (by omega) ?_
          exact ⟨(i + 1, decide (((h >>> x.toNat &&& 1 : Nat) : Int) = 1)), ⟨by dsimp only; omega, by dsimp only; rw [st, hout]⟩, by dsimp only; omega, Ent.mk (fun _ _ h => h.pick [0, 1, 2, 3] rfl rfl) rfl rfl⟩
        · rw [decide_eq_false hx0, Bool.false_and] at hout
          refine hq' _ _ ?_
          refine nw (by omega) (by omega) ?_
          exact ⟨(i + 1, false), ⟨by dsimp only; omega, by dsimp only; rw [st, hout]⟩, by dsimp only; omega, Ent.mk (fun _ _ h => h.pick [0, 1, 2, 3] rfl rfl) rfl rfl⟩
      · rw [hac, Bool.false_and] at st
        refine hq' _ _ ?_
        refine nw (by omega) (by omega) ?_
        exact ⟨(i + 1, false), ⟨by dsimp only; omega, by dsimp only; rw [st]⟩, by dsimp only; omega, Ent.mk (fun _ _ h => h) rfl rfl⟩
    · have hfin : hel = acc := by rw [hacc, hhel, hel_eq hG hM7 hr, show i = M by omega, hlf]
      have hnone : hel = decide ((candF M E k x).length = 0) := by rw [hhel, hel_none hG hM7 hr]
      have kC : ∀ {a : Option Addr} {n c : Nat} (w : World), Sl (encF fE) 2 (Hp.whole w) a n c E → CallsE Tryd.prog 11 #[gv M a n c, .int .i64 k, .int .i64 x] w (Ret w fun v cs => ∃ a' n' c' h, v = .slice a' n' c' ∧ cs = [.hp h] ∧ Sl (encS (encF fI) 1) 1 h a' n' c' (candF M E k x)) := fun w h => modCand_spec M hM7 k x (by omega) w h hG
      refine normS [.hp (Hp.whole w), .box b3 [.int .u8 N, .slice a n c] 24, .hp o.h, .box b7 [.int .i64 M, .slice o.a o.n o.c] 28] rfl ?_
      refine hideQ (fun q' hq' => ?_)
      refine qEqB24 ?_
      refine btrue (by rw [hfin]; exact beq_self_eq_true acc) ?_
      refine call (fun w' hm => kC w' (sE.mono (encF_mono _) (hm 2 _ rfl))) ?_
      rintro _ _ ⟨aC, nC, cC, hC, rfl, rfl, sC⟩
      have lC := sC.len
      refine qEqB24 ?_
      refine btrue (by rw [hnone, decide_eq_decide.2 (show (candF M E k x).length = 0 ↔ (nC : Int) = 0 by omega)]; exact beq_self_eq_true _) ?_
      refine hq' _ _ ?_
      exact ⟨[], ⟨by rw [decide_eq_true (show z = 0 by rw [hz, hr])], rfl⟩, fun w' h => h.pick [0] rfl rfl⟩
end Go.Proofs.YtbcjdjlihhlkaaaDoor
