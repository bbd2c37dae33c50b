/- The law GraphChecks returns true. Its premises are its argument's form. -/
import Derived.Test.YtdjhgcpmipglfaaL4
import Derived.Test.YtdjhgcpmipglfaaGo
namespace Go.Proofs.Ytdjhgcpmipglfaa
open Go Go.RowKit Go.Dw
theorem Induced_bad {a : Option Addr} {n c : Nat} {E : List (Int × Int)} (N : Int) (w : World) (hL : Sl (encF fE) 2 (Hp.whole w) a n c E) (hb : checkF N E ≠ 0) :
    CallsE Try.prog 54 #[gv N a n c, .slice none 0 0] w (RetG w (0, [], checkF N E)) := by
  have e : readyF N E [] = checkF N E := if_pos hb
  refine enter (X := cx 59) (cxg _) (args := [.agg #[.int .i64 N, .slice a n c], .slice none 0 0]) [.cell 4 26, .tmp 5] Try.func54 rfl rfl rfl rfl rfl ?_
  intro b1 b2
  refine callV _ (fun w' hm => ready_spec N w' (hL.mono (encF_mono _) (hm 0 _ rfl)) (Sl.nil (encF fI) 1 (Hp.whole w') none 0) (by decide)) ?_
  refine bsplitd (fun h => ?_) (fun h => ?_)
  · exact ⟨[.hp Hp.emp], ⟨Os.nil, by rw [e]; rfl, rfl, OwnO.nil _ _ _⟩, fun w' h => (h.pick [0] rfl rfl).emp⟩
  · exact absurd (e ▸ Decidable.not_not.1 h) hb
set_option maxRecDepth 10000 in
set_option maxHeartbeats 1000000 in
theorem checks_aux {a : Option Addr} {n c : Nat} {E : List (Int × Int)} (N : Int) (w : World) (hL : Sl (encF fE) 2 (Hp.whole w) a n c E) {e z : Int} {E0 : List (Int × Int)} {LL0 : List (List Int)} {I0 : List Int}
    (he : e = checkF N E) (hz : z = 0) (hE0 : E0 = []) (hLL0 : LL0 = []) (hI0 : I0 = [])
    (k1 : e ≠ 0 → ∀ w, Sl (encF fE) 2 (Hp.whole w) a n c E → CallsE Try.prog 53 #[gv N a n c] w (RetG w (z, E0, e)))
    (k2 : e ≠ 0 → ∀ w, Sl (encF fE) 2 (Hp.whole w) a n c E → CallsE Try.prog 54 #[gv N a n c, .slice none 0 0] w (RetG w (z, E0, e)))
    (k3 : e ≠ 0 → ∀ w, Sl (encF fE) 2 (Hp.whole w) a n c E → CallsE Try.prog 62 #[gv N a n c] w (RetR w LL0 e))
    (k4 : e ≠ 0 → ∀ w, Sl (encF fE) 2 (Hp.whole w) a n c E → CallsE Try.prog 45 #[gv N a n c] w (RetR w LL0 e))
    (k5 : e ≠ 0 → ∀ w, Sl (encF fE) 2 (Hp.whole w) a n c E → CallsE Try.prog 46 #[gv N a n c] w (Ret w fun v cs => ∃ o o2 : Dw.Os, v = .tuple #[gv z o.a o.n o.c, o2.v, .int .i64 e] ∧ cs = [.hp o.h, .hp o2.h] ∧ OwnO fE 32 2 o E0 ∧ OwnO fI 3 1 o2 I0))
    (k6 : e ≠ 0 → ∀ w, Sl (encF fE) 2 (Hp.whole w) a n c E → CallsE Try.prog 32 #[gv N a n c] w (RetI w I0 e))
    (k7 : e ≠ 0 → ∀ w, Sl (encF fE) 2 (Hp.whole w) a n c E → CallsE Try.prog 33 #[gv N a n c] w (RetI w I0 e)) :
    CallsE Try.prog 13 #[gv N a n c] w (RetV w (.bool true)) := by
  have hlen := hL.len
  refine enter (X := cx 140) (cxg _) (args := [.agg #[.int .i64 N, .slice a n c]]) [.tmp 2] Try.func13 rfl rfl rfl rfl rfl ?_
  intro b1
  refine callV _ (fun w' _ => known_spec w') ?_
  refine callV _ (fun w' hm => few_spec N w' (hL.mono (encF_mono _) (hm 0 _ rfl))) ?_
  refine bsplit (fun h1 => ?_) (fun h1 => ?_)
  · refine callV _ (fun w' _ => known_spec w') ?_
    exact ⟨[], ⟨rfl, rfl⟩, fun w' h => h.pick [0] rfl rfl⟩
  have hl : E.length ≤ 24 := by
    unfold fewF at h1
    simp only [Bool.not_eq_false', Bool.and_eq_true, decide_eq_true_eq] at h1
    exact h1.1
  refine call (fun w' hm => plain_spec N w' (hL.mono (encF_mono _) (hm 0 _ rfl)) (by omega)) ?_
  rintro _ _ ⟨oP, rfl, rfl, hoP⟩
  have hsP := OwnO.sl (f := fE) (fun _ => rfl) (by decide) hoP
  refine callV (.int .i64 e) (fun w' hm => by rw [he]; exact RCheck_spec N w' (hsP.mono (encF_mono _) (hm 2 _ rfl))) ?_
  refine call (fun w' hm => copied_spec N w' (hL.mono (encF_mono _) (hm 0 _ rfl)) (by omega)) ?_
  rintro _ _ ⟨oC, rfl, rfl, hoC⟩
  have hsC := OwnO.sl (f := fE) (fun _ => rfl) (by decide) hoC
  refine callV (.int .i64 e) (fun w' hm => by rw [he]; exact check_spec N w' (hsC.mono (encF_mono _) (hm 3 _ rfl))) ?_
  refine dfalse (fun h => h rfl) ?_
  refine bsplitd (fun h0 => ?_) (fun h0 => ?_)
  · exact ⟨[], ⟨rfl, rfl⟩, fun w' h => h.pick [0] rfl rfl⟩
  refine normS [.hp (Hp.whole w), .box b1 [.int .i64 N, .slice a n c] 26, .hp oP.h, .hp oC.h] rfl ?_
  refine call (fun w' hm => k1 h0 w' (hL.mono (encF_mono _) (hm 0 _ rfl))) ?_
  rintro _ _ ⟨oA, rfl, rfl, hoA⟩
  intro b4
  refine hideQ (fun _ h => h _ _ ?_)
  refine normS [.hp (Hp.whole w), .box b1 [.int .i64 N, .slice a n c] 26, .hp oP.h, .hp oC.h, .hp oA.h, .box b4 [.int .i64 z, oA.v] 26] rfl ?_
  refine call (fun w' hm => k2 h0 w' (hL.mono (encF_mono _) (hm 0 _ rfl))) ?_
  rintro _ _ ⟨oB, rfl, rfl, hoB⟩
  intro b6
  refine hideQ (fun _ h => h _ _ ?_)
  refine normS [.hp (Hp.whole w), .box b1 [.int .i64 N, .slice a n c] 26, .hp oP.h, .hp oC.h, .hp oA.h, .box b4 [.int .i64 z, oA.v] 26, .hp oB.h, .box b6 [.int .i64 z, oB.v] 26] rfl ?_
  refine call (fun w' hm => k3 h0 w' (hL.mono (encF_mono _) (hm 0 _ rfl))) ?_
  rintro _ _ ⟨a8, n8, c8, h8, rfl, rfl, hs8⟩
  refine hideQ (fun _ h => h _ _ ?_)
  refine normS [.hp (Hp.whole w), .box b1 [.int .i64 N, .slice a n c] 26, .hp oP.h, .hp oC.h, .hp oA.h, .box b4 [.int .i64 z, oA.v] 26, .hp oB.h, .box b6 [.int .i64 z, oB.v] 26, .hp h8] rfl ?_
  refine call (fun w' hm => k4 h0 w' (hL.mono (encF_mono _) (hm 0 _ rfl))) ?_
  rintro _ _ ⟨a9, n9, c9, h9, rfl, rfl, hs9⟩
  refine hideQ (fun _ h => h _ _ ?_)
  refine normS [.hp (Hp.whole w), .box b1 [.int .i64 N, .slice a n c] 26, .hp oP.h, .hp oC.h, .hp oA.h, .box b4 [.int .i64 z, oA.v] 26, .hp oB.h, .box b6 [.int .i64 z, oB.v] 26, .hp h8, .hp h9] rfl ?_
  refine call (fun w' hm => k5 h0 w' (hL.mono (encF_mono _) (hm 0 _ rfl))) ?_
  rintro _ _ ⟨oX, oX2, rfl, rfl, hoX, hoX2⟩
  intro b12
  refine hideQ (fun _ h => h _ _ ?_)
  refine normS [.hp (Hp.whole w), .box b1 [.int .i64 N, .slice a n c] 26, .hp oP.h, .hp oC.h, .hp oA.h, .box b4 [.int .i64 z, oA.v] 26, .hp oB.h, .box b6 [.int .i64 z, oB.v] 26, .hp h8, .hp h9, .hp oX.h, .hp oX2.h, .box b12 [.int .i64 z, .slice oX.a oX.n oX.c] 26] rfl ?_
  refine call (fun w' hm => k6 h0 w' (hL.mono (encF_mono _) (hm 0 _ rfl))) ?_
  rintro _ _ ⟨oY, rfl, rfl, hoY⟩
  refine hideQ (fun _ h => h _ _ ?_)
  refine normS [.hp (Hp.whole w), .box b1 [.int .i64 N, .slice a n c] 26, .hp oP.h, .hp oC.h, .hp oA.h, .box b4 [.int .i64 z, oA.v] 26, .hp oB.h, .box b6 [.int .i64 z, oB.v] 26, .hp h8, .hp h9, .hp oX.h, .hp oX2.h, .box b12 [.int .i64 z, .slice oX.a oX.n oX.c] 26, .hp oY.h] rfl ?_
  refine call (fun w' hm => k7 h0 w' (hL.mono (encF_mono _) (hm 0 _ rfl))) ?_
  rintro _ _ ⟨oZ, rfl, rfl, hoZ⟩
  have hsA := OwnO.sl (f := fE) (fun _ => rfl) (by decide) hoA
  have hsB := OwnO.sl (f := fE) (fun _ => rfl) (by decide) hoB
  have hsX := OwnO.sl (f := fE) (fun _ => rfl) (by decide) hoX
  have lA : oA.n = 0 := by rw [hoA.len, hE0]; rfl
  have lB : oB.n = 0 := by rw [hoB.len, hE0]; rfl
  have lX : oX.n = 0 := by rw [hoX.len, hE0]; rfl
  have l8 : n8 = 0 := by rw [hs8.len, hLL0]; rfl
  have l9 : n9 = 0 := by rw [hs9.len, hLL0]; rfl
  have lX2 : oX2.n = 0 := by rw [hoX2.len, hI0]; rfl
  have lY : oY.n = 0 := by rw [hoY.len, hI0]; rfl
  have lZ : oZ.n = 0 := by rw [hoZ.len, hI0]; rfl
  have hsame : (decide (z = 0) && decide (E0 = [])) = true := by rw [hz, hE0]; rfl
  refine hideQ (fun _ h => h _ _ ?_)
  refine hideQ (fun q' hq' => ?_)
  refine normS [.hp (Hp.whole w), .box b1 [.int .i64 N, .slice a n c] 26, .hp oP.h, .hp oC.h, .hp oA.h, .box b4 [.int .i64 z, oA.v] 26, .hp oB.h, .box b6 [.int .i64 z, oB.v] 26, .hp h8, .hp h9, .hp oX.h, .hp oX2.h,
    .box b12 [.int .i64 z, .slice oX.a oX.n oX.c] 26, .hp oY.h, .hp oZ.h] rfl ?_
  refine hideK 4 (fun q1 k1 => ?_)
  refine callV _ (fun w' hm => same_spec z 0 w' (hsA.mono (encF_mono _) (hm 4 _ rfl)) (Sl.nil (encF fE) 2 (Hp.whole w') none 0) (by omega)) ?_
  refine k1 _ _ ?_
  refine hideK 5 (fun q1 k1 => ?_)
  refine btrue hsame ?_
  refine callV _ (fun w' hm => same_spec z 0 w' (hsB.mono (encF_mono _) (hm 6 _ rfl)) (Sl.nil (encF fE) 2 (Hp.whole w') none 0) (by omega)) ?_
  refine k1 _ _ ?_
  refine hideK 5 (fun q1 k1 => ?_)
  refine btrue hsame ?_
  refine callV _ (fun w' hm => same_spec z 0 w' (hsX.mono (encF_mono _) (hm 10 _ rfl)) (Sl.nil (encF fE) 2 (Hp.whole w') none 0) (by omega)) ?_
  refine k1 _ _ ?_
  refine hideK 17 (fun q1 k1 => ?_)
  refine btrue hsame ?_
  refine nw (by omega) (by omega) ?_
  refine nw (by omega) (by omega) ?_
  refine nw (by omega) (by omega) ?_
  refine nw (by omega) (by omega) ?_
  refine k1 _ _ ?_
  refine hq' _ _ ?_
  refine hideQ (fun q' hq' => ?_)
  refine hideK 7 (fun q1 k1 => ?_)
  refine dtrue (by omega) ?_
  refine k1 _ _ ?_
  refine hideK 5 (fun q1 k1 => ?_)
  refine dtrue rfl ?_
  refine k1 _ _ ?_
  refine hideK 5 (fun q1 k1 => ?_)
  refine dtrue rfl ?_
  refine k1 _ _ ?_
  refine hideK 5 (fun q1 k1 => ?_)
  refine dtrue rfl ?_
  refine k1 _ _ ?_
  refine hideK 5 (fun q1 k1 => ?_)
  refine dtrue rfl ?_
  refine k1 _ _ ?_
  refine hideK 5 (fun q1 k1 => ?_)
  refine dtrue rfl ?_
  refine k1 _ _ ?_
  refine hideK 5 (fun q1 k1 => ?_)
  refine dtrue rfl ?_
  refine k1 _ _ ?_
  refine hq' _ _ ?_
  exact ⟨[], ⟨by rw [decide_eq_true rfl], rfl⟩, fun w' h => h.pick [0] rfl rfl⟩
theorem checks_ok {a : Option Addr} {n c : Nat} {E : List (Int × Int)} (N : Int) (w : World) (hL : Sl (encF fE) 2 (Hp.whole w) a n c E) :
    CallsE Try.prog 13 #[gv N a n c] w (RetV w (.bool true)) :=
  checks_aux N w hL rfl rfl rfl rfl rfl
    (fun h w hL => by have := Reverse_spec N w hL; unfold revR at this; rw [if_neg h] at this; exact this)
    (fun h w hL => Induced_bad N w hL h)
    (fun h w hL => by have := Closure_spec N w hL; unfold closR at this; rw [if_neg h] at this; exact this)
    (fun h w hL => by have := Components_spec N w hL; unfold compR at this; rw [if_neg h] at this; exact this)
    (fun h w hL => by have := Condense_spec N w hL; unfold conR at this; rw [if_neg h] at this; exact this)
    (fun h w hL => by have := Order_spec N w hL; unfold ordR ordC at this; rw [if_neg h, if_neg h] at this; exact this)
    (fun h w hL => by have := Cycle_spec N w hL; unfold cycR cycC at this; rw [if_neg h, if_neg h] at this; exact this)
end Go.Proofs.Ytdjhgcpmipglfaa
