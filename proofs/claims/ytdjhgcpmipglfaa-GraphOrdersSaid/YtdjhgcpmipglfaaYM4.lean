/- The law GraphOrders returns true. Its premises are its argument's form. -/
import Derived.Test.YtdjhgcpmipglfaaYM3
import Derived.Test.YtdjhgcpmipglfaaYP3
namespace Go.Proofs.Ytdjhgcpmipglfaa
open Go Go.RowKit Go.Dw
set_option maxRecDepth 10000 in
theorem orders_ok {a : Option Addr} {n c : Nat} {E : List (Int × Int)} (N : Int) (w : World) (hL : Sl (encF fE) 2 (Hp.whole w) a n c E) :
    CallsE Try.prog 5 #[gv N a n c] w (RetV w (.bool true)) := by
  have hlen := hL.len
  refine enter (X := cx 61) (cxg _) (args := [.agg #[.int .i64 N, .slice a n c]]) [.tmp 2] Try.func5 rfl rfl rfl rfl rfl ?_
  intro b1
  refine callV _ (fun w' _ => known_spec w') ?_
  refine callV _ (fun w' hm => fine_spec N w' (hL.mono (encF_mono _) (hm 0 _ rfl))) ?_
  refine bsplit (fun h1 => ?_) (fun h1 => ?_)
  · refine callV _ (fun w' _ => known_spec w') ?_
    exact ⟨[], ⟨rfl, rfl⟩, fun w' h => h.pick [0] rfl rfl⟩
  rw [Bool.not_eq_false'] at h1
  obtain ⟨M, rfl, hM8, hEl, hG, hs, h0⟩ := fineF_ok h1
  obtain ⟨e1, he1⟩ : ∃ e : Int, e = (match ordK M E M with | none => 30 | some _ => 0) := ⟨_, rfl⟩
  obtain ⟨L1, hL1⟩ : ∃ L, L = (ordK M E M).getD [] := ⟨_, rfl⟩
  obtain ⟨e2, he2⟩ : ∃ e, e = rce M E := ⟨_, rfl⟩
  obtain ⟨L2, hL2⟩ : ∃ L, L = rcy M E := ⟨_, rfl⟩
  have l1 : L1.length ≤ 100 := by
    rw [hL1]
    cases h : ordK M E M with
    | none => simp
    | some D => have := ordK_len M D h; simp only [Option.getD_some]; omega
  have l2 : L2.length ≤ 100 := by
    rw [hL2, (cyc_eq hG hs).1]
    cases h : cycK M E E with
    | none => simp
    | some D => have := cycK_len (E := E) hG.hN E none (fun _ h => by cases h) D h; simp only [Option.getD_some]; omega
  have kO : ∀ {a : Option Addr} {n c : Nat} (w : World), Sl (encF fE) 2 (Hp.whole w) a n c E → CallsE Try.prog 32 #[gv M a n c] w (RetI w L1 e1) := fun w h => by
    have := Order_spec M w h
    unfold ordR ordC at this
    rw [if_pos h0, if_pos h0] at this
    rw [hL1, he1]; exact this
  have kC : ∀ {a : Option Addr} {n c : Nat} (w : World), Sl (encF fE) 2 (Hp.whole w) a n c E → CallsE Try.prog 33 #[gv M a n c] w (RetI w L2 e2) := fun w h => by
    have := Cycle_spec M w h
    unfold cycR cycC at this
    rw [if_pos h0, if_pos h0, Int.toNat_natCast] at this
    rw [hL2, he2, (cyc_eq hG hs).1, (cyc_eq hG hs).2]; exact this
  have kRO : ∀ {a : Option Addr} {n c : Nat} (w : World), Sl (encF fE) 2 (Hp.whole w) a n c E → CallsE Try.prog 34 #[gv M a n c] w (RetI w L1 e1) := fun w h => by
    rw [hL1, he1]; exact ROrder_spec M w h hG
  have kRC : ∀ {a : Option Addr} {n c : Nat} (w : World), Sl (encF fE) 2 (Hp.whole w) a n c E → CallsE Try.prog 35 #[gv M a n c] w (RetI w L2 e2) := fun w h => by
    rw [hL2, he2]; exact RCycle_spec M w h hG
  clear he1 hL1 he2 hL2
  refine call (fun w' hm => copied_spec M w' (hL.mono (encF_mono _) (hm 0 _ rfl)) (by omega)) ?_
  rintro _ _ ⟨o1, rfl, rfl, ho1⟩
  have so1 := OwnO.sl (f := fE) (fun _ => rfl) (by decide) ho1
  refine call (fun w' hm => kO w' (so1.mono (encF_mono _) (hm 2 _ rfl))) ?_
  rintro _ _ ⟨oA, rfl, rfl, hoA⟩
  have soA := OwnO.sl (f := fI) (fun _ => rfl) (by decide) hoA
  have noA := hoA.len
  refine hideQ (fun _ h => h _ _ ?_)
  refine normS [.hp (Hp.whole w), .box b1 [.int .i64 M, .slice a n c] 26, .hp o1.h, .hp oA.h] rfl ?_
  refine call (fun w' hm => copied_spec M w' (hL.mono (encF_mono _) (hm 0 _ rfl)) (by omega)) ?_
  rintro _ _ ⟨o2, rfl, rfl, ho2⟩
  have so2 := OwnO.sl (f := fE) (fun _ => rfl) (by decide) ho2
  refine call (fun w' hm => kC w' (so2.mono (encF_mono _) (hm 4 _ rfl))) ?_
  rintro _ _ ⟨oB, rfl, rfl, hoB⟩
  have soB := OwnO.sl (f := fI) (fun _ => rfl) (by decide) hoB
  have noB := hoB.len
  refine hideQ (fun _ h => h _ _ ?_)
  refine normS [.hp (Hp.whole w), .box b1 [.int .i64 M, .slice a n c] 26, .hp o1.h, .hp oA.h, .hp o2.h, .hp oB.h] rfl ?_
  refine call (fun w' hm => plain_spec M w' (hL.mono (encF_mono _) (hm 0 _ rfl)) (by omega)) ?_
  rintro _ _ ⟨o3, rfl, rfl, ho3⟩
  have so3 := OwnO.sl (f := fE) (fun _ => rfl) (by decide) ho3
  refine call (fun w' hm => kRO w' (so3.mono (encF_mono _) (hm 6 _ rfl))) ?_
  rintro _ _ ⟨oX, rfl, rfl, hoX⟩
  have soX := OwnO.sl (f := fI) (fun _ => rfl) (by decide) hoX
  have noX := hoX.len
  refine hideQ (fun _ h => h _ _ ?_)
  refine normS [.hp (Hp.whole w), .box b1 [.int .i64 M, .slice a n c] 26, .hp o1.h, .hp oA.h, .hp o2.h, .hp oB.h, .hp o3.h, .hp oX.h] rfl ?_
  refine call (fun w' hm => plain_spec M w' (hL.mono (encF_mono _) (hm 0 _ rfl)) (by omega)) ?_
  rintro _ _ ⟨o4, rfl, rfl, ho4⟩
  have so4 := OwnO.sl (f := fE) (fun _ => rfl) (by decide) ho4
  refine call (fun w' hm => kRC w' (so4.mono (encF_mono _) (hm 8 _ rfl))) ?_
  rintro _ _ ⟨oY, rfl, rfl, hoY⟩
  have soY := OwnO.sl (f := fI) (fun _ => rfl) (by decide) hoY
  have noY := hoY.len
  refine hideQ (fun _ h => h _ _ ?_)
  refine normS [.hp (Hp.whole w), .box b1 [.int .i64 M, .slice a n c] 26, .hp o1.h, .hp oA.h, .hp o2.h, .hp oB.h, .hp o3.h, .hp oX.h, .hp o4.h, .hp oY.h] rfl ?_
  refine hideQ (fun q' hq' => ?_)
  refine hideK 4 (fun qq k1 => ?_)
  refine k1 _ _ ?_
  refine hideK 5 (fun qq k1 => ?_)
  refine dtrue rfl ?_
  refine k1 _ _ ?_
  refine hideK 5 (fun qq k1 => ?_)
  refine dtrue rfl ?_
  refine callV _ (fun w' hm => equalInts_spec w' (soA.mono (encF_mono _) (hm 3 _ rfl)) (soX.mono (encF_mono _) (hm 7 _ rfl)) (by omega)) ?_
  refine k1 _ _ ?_
  refine hideK 5 (fun qq k1 => ?_)
  refine dtrue rfl ?_
  refine callV _ (fun w' hm => equalInts_spec w' (soB.mono (encF_mono _) (hm 5 _ rfl)) (soY.mono (encF_mono _) (hm 9 _ rfl)) (by omega)) ?_
  refine k1 _ _ ?_
  refine hq' _ _ ?_
  exact ⟨[], ⟨by rw [decide_eq_true rfl], rfl⟩, fun w' h => h.pick [0] rfl rfl⟩
end Go.Proofs.Ytdjhgcpmipglfaa
