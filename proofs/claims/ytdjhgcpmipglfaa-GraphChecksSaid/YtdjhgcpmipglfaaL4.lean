/- Contract of the laws' known: it returns true. -/
import Derived.Test.YtdjhgcpmipglfaaL3
import Derived.Test.YtdjhgcpmipglfaaGl
import Derived.Test.YtdjhgcpmipglfaaP1
import Derived.KernelRfl
namespace Go.Proofs.Ytdjhgcpmipglfaa
open Go Go.RowKit Go.Dw
theorem Sl.boxR {b T : Nat} {cs : List Value} {w : World} (hh : (Ch.box b cs T).h.In w) {LL : List (List Int)} (hr : Rds (Hp.whole w) cs LL) {n : Nat} (hn : n = cs.length) : Sl (encS (encF fI) 1) 1 (Hp.whole w) (some ⟨b, 0, none⟩) n n LL := by
  have hl := hr.len
  refine ⟨by omega, Nat.le_refl _, fun i hi => ?_⟩
  have hi' : i < cs.length := by omega
  refine ⟨b, 0, [cs[i]], rfl, rfl, hr.get i _ _ (List.getElem?_eq_getElem hi') (List.getElem?_eq_getElem hi), fun j v hj => ?_⟩
  obtain rfl : j = 0 := by
    have := (List.getElem?_eq_some_iff.1 hj).1
    simpa using this
  cases hj
  have h1 : (Ch.box b cs T).h.cell? ⟨b, i, none⟩ = some cs[i] := by
    simp [Ch.h, Hp.cell?, Hp.one, hi']
  rw [show 0 + i * 1 + 0 = i by omega]
  exact Hp.le.cell hh h1
theorem exC : checkF 4 exE = 0 := by decide
theorem exComp : compR 4 exE = [[0, 1], [2], [3]] := by kernel_rfl
theorem exSink : sinkR 4 exE = [[2]] := by
  unfold sinkR sinkF sinkK isSink condR
  simp only [makeR_rmkR]
  kernel_rfl
theorem exTree : treeR 4 exE 0 (fun k => lastBut (pathF (4 : Int).toNat exE 0 k)) = [-1, 0, 1, -1] := by kernel_rfl
theorem exSing : singleF 4 exE [0] = 0 := by kernel_rfl
theorem exCyc : cycR 4 exE = [0, 1] := by kernel_rfl
theorem exCycC : cycC 4 exE = 0 := by kernel_rfl
theorem comp_ex {a : Option Addr} {n c : Nat} (w : World) (hL : Sl (encF fE) 2 (Hp.whole w) a n c exE) : CallsE Try.prog 45 #[gv 4 a n c] w (RetR w [[0, 1], [2], [3]] 0) := by
  have := Components_spec 4 w hL
  rw [exComp, exC] at this; exact this
theorem sink_ex {a : Option Addr} {n c : Nat} (w : World) (hL : Sl (encF fE) 2 (Hp.whole w) a n c exE) : CallsE Try.prog 39 #[gv 4 a n c] w (RetR w [[2]] 0) := by
  have := Sinks_spec 4 w hL
  rw [exSink, exC] at this; exact this
theorem tree_ex {a : Option Addr} {n c : Nat} (w : World) (hL : Sl (encF fE) 2 (Hp.whole w) a n c exE) : CallsE Try.prog 27 #[gv 4 a n c, .int .i64 0] w (RetI w [-1, 0, 1, -1] 0) := by
  have := Tree_spec 4 0 w hL
  rw [exTree, exSing] at this; exact this
theorem cyc_ex {a : Option Addr} {n c : Nat} (w : World) (hL : Sl (encF fE) 2 (Hp.whole w) a n c exE) : CallsE Try.prog 33 #[gv 4 a n c] w (RetI w [0, 1] 0) := by
  have := Cycle_spec 4 w hL
  rw [exCyc, exCycC] at this; exact this
theorem ex_rows3 {b1 b2 b3 b4 T1 T2 T3 T4 : Nat} {w : World} (h1 : (Ch.box b1 [.int .i64 0, .int .i64 1] T1).h.In w) (h2 : (Ch.box b2 [.int .i64 2] T2).h.In w) (h3 : (Ch.box b3 [.int .i64 3] T3).h.In w)
    (h4 : (Ch.box b4 [.slice (some ⟨b1, 0, none⟩) 2 2, .slice (some ⟨b2, 0, none⟩) 1 1, .slice (some ⟨b3, 0, none⟩) 1 1] T4).h.In w) : Sl (encS (encF fI) 1) 1 (Hp.whole w) (some ⟨b4, 0, none⟩) 3 3 [[0, 1], [2], [3]] :=
  Sl.boxR h4 ((((Rds.nil _).push ⟨_, _, _, rfl, Sl.box (f := fI) (fun _ => rfl) (by decide) h1 [0, 1] rfl rfl (by decide)⟩).push ⟨_, _, _, rfl, Sl.box (f := fI) (fun _ => rfl) (by decide) h2 [2] rfl rfl (by decide)⟩).push
      ⟨_, _, _, rfl, Sl.box (f := fI) (fun _ => rfl) (by decide) h3 [3] rfl rfl (by decide)⟩) rfl
theorem ex_rows1 {b1 b4 T1 T4 : Nat} {w : World} (h1 : (Ch.box b1 [.int .i64 2] T1).h.In w) (h4 : (Ch.box b4 [.slice (some ⟨b1, 0, none⟩) 1 1] T4).h.In w) : Sl (encS (encF fI) 1) 1 (Hp.whole w) (some ⟨b4, 0, none⟩) 1 1 [[2]] :=
  Sl.boxR h4 ((Rds.nil _).push ⟨_, _, _, rfl, Sl.box (f := fI) (fun _ => rfl) (by decide) h1 [2] rfl rfl (by decide)⟩) rfl
set_option maxRecDepth 10000 in
/-- the four contracts, their results as variables -/
theorem known_aux (w : World) {e : Int} {L1 L2 : List (List Int)} {L3 L4 : List Int} (he : e = 0) (e1 : L1 = [[0, 1], [2], [3]]) (e2 : L2 = [[2]]) (e3 : L3 = [-1, 0, 1, -1]) (e4 : L4 = [0, 1])
    (k1 : ∀ {a : Option Addr} {n c : Nat} (w : World), Sl (encF fE) 2 (Hp.whole w) a n c exE → CallsE Try.prog 45 #[gv 4 a n c] w (RetR w L1 e))
    (k2 : ∀ {a : Option Addr} {n c : Nat} (w : World), Sl (encF fE) 2 (Hp.whole w) a n c exE → CallsE Try.prog 39 #[gv 4 a n c] w (RetR w L2 e))
    (k3 : ∀ {a : Option Addr} {n c : Nat} (w : World), Sl (encF fE) 2 (Hp.whole w) a n c exE → CallsE Try.prog 27 #[gv 4 a n c, .int .i64 0] w (RetI w L3 e))
    (k4 : ∀ {a : Option Addr} {n c : Nat} (w : World), Sl (encF fE) 2 (Hp.whole w) a n c exE → CallsE Try.prog 33 #[gv 4 a n c] w (RetI w L4 e)) :
    CallsE Try.prog 14 #[] w (RetV w (.bool true)) := by
  refine enter (X := cx 67) (cxg _) (args := []) [.tmp 0] Try.func14 rfl rfl rfl rfl rfl ?_
  refine call (fun w' _ => Example_spec w') ?_
  rintro _ _ ⟨a1, n1, c1, h1, rfl, rfl, hs1⟩
  refine call (fun w' hm => k1 w' (hs1.mono (encF_mono _) (hm 1 _ rfl))) ?_
  rintro _ _ ⟨a2, n2, c2, h2, rfl, rfl, hs2⟩
  refine call (fun w' _ => Example_spec w') ?_
  rintro _ _ ⟨a3, n3, c3, h3, rfl, rfl, hs3⟩
  refine call (fun w' hm => k2 w' (hs3.mono (encF_mono _) (hm 3 _ rfl))) ?_
  rintro _ _ ⟨a4, n4, c4, h4, rfl, rfl, hs4⟩
  refine call (fun w' _ => Example_spec w') ?_
  rintro _ _ ⟨a5, n5, c5, h5, rfl, rfl, hs5⟩
  refine call (fun w' hm => k3 w' (hs5.mono (encF_mono _) (hm 5 _ rfl))) ?_
  rintro _ _ ⟨o6, rfl, rfl, ho6⟩
  refine call (fun w' _ => Example_spec w') ?_
  rintro _ _ ⟨a7, n7, c7, h7, rfl, rfl, hs7⟩
  refine call (fun w' hm => k4 w' (hs7.mono (encF_mono _) (hm 7 _ rfl))) ?_
  rintro _ _ ⟨o8, rfl, rfl, ho8⟩
  have hs6 := OwnO.sl (f := fI) (fun _ => rfl) (by decide) ho6
  have hs8 := OwnO.sl (f := fI) (fun _ => rfl) (by decide) ho8
  have l2 := hs2.len
  have l4 := hs4.len
  have l6 := hs6.len
  have l8 := hs8.len
  refine hideQ (fun _ h => h _ _ ?_)
  refine hideQ (fun q' hq' => ?_)
  refine normS [.hp (Hp.whole w), .hp h1, .hp h2, .hp h3, .hp h4, .hp h5, .hp o6.h, .hp h7, .hp o8.h] rfl ?_
  refine hideK 3 (fun q1 k1 => ?_)
  refine k1 _ _ ?_
  refine hideK 4 (fun q1 k1 => ?_)
  refine dtrue he ?_
  refine k1 _ _ ?_
  refine hideK 4 (fun q1 k1 => ?_)
  refine dtrue he ?_
  refine k1 _ _ ?_
  refine hideK 4 (fun q1 k1 => ?_)
  refine dtrue he ?_
  refine k1 _ _ ?_
  refine hideK 2 (fun q1 k1 => ?_)
  refine dtrue he ?_
  intro b45
  refine k1 _ _ ?_
  refine normS [.hp (Hp.whole w), .hp h1, .hp h2, .hp h3, .hp h4, .hp h5, .hp o6.h, .hp h7, .hp o8.h, .box b45 [.int .i64 0, .int .i64 1] 3] rfl ?_
  refine hideK 1 (fun q1 k1 => ?_)
  intro b46
  refine k1 _ _ ?_
  refine normS [.hp (Hp.whole w), .hp h1, .hp h2, .hp h3, .hp h4, .hp h5, .hp o6.h, .hp h7, .hp o8.h, .box b45 [.int .i64 0, .int .i64 1] 3, .box b46 [.int .i64 2] 3] rfl ?_
  refine hideK 1 (fun q1 k1 => ?_)
  intro b47
  refine k1 _ _ ?_
  refine normS [.hp (Hp.whole w), .hp h1, .hp h2, .hp h3, .hp h4, .hp h5, .hp o6.h, .hp h7, .hp o8.h, .box b45 [.int .i64 0, .int .i64 1] 3, .box b46 [.int .i64 2] 3, .box b47 [.int .i64 3] 3] rfl ?_
  refine hideK 1 (fun q1 k1 => ?_)
  intro b48
  refine k1 _ _ ?_
  refine normS [.hp (Hp.whole w), .hp h1, .hp h2, .hp h3, .hp h4, .hp h5, .hp o6.h, .hp h7, .hp o8.h, .box b45 [.int .i64 0, .int .i64 1] 3, .box b46 [.int .i64 2] 3, .box b47 [.int .i64 3] 3, .box b48 [.slice (some ⟨b45, 0, none⟩) 2 2, .slice (some ⟨b46, 0, none⟩) 1 1, .slice (some ⟨b47, 0, none⟩) 1 1] 42] rfl ?_
  refine hideK 3 (fun q1 k1 => ?_)
  refine callV _ (fun w' hm => lists_spec w' (hs2.mono (encS_mono (encF_mono _) _) (hm 2 _ rfl)) (ex_rows3 (hm 9 _ rfl) (hm 10 _ rfl) (hm 11 _ rfl) (hm 12 _ rfl)) (by rw [e1] at l2; simp at l2; omega) (by rw [e1]; decide)) ?_
  refine k1 _ _ ?_
  refine hideK 2 (fun q1 k1 => ?_)
  refine dtrue e1 ?_
  intro b53
  refine k1 _ _ ?_
  refine normS [.hp (Hp.whole w), .hp h1, .hp h2, .hp h3, .hp h4, .hp h5, .hp o6.h, .hp h7, .hp o8.h, .box b45 [.int .i64 0, .int .i64 1] 3, .box b46 [.int .i64 2] 3, .box b47 [.int .i64 3] 3, .box b48 [.slice (some ⟨b45, 0, none⟩) 2 2, .slice (some ⟨b46, 0, none⟩) 1 1, .slice (some ⟨b47, 0, none⟩) 1 1] 42, .box b53 [.int .i64 2] 3] rfl ?_
  refine hideK 1 (fun q1 k1 => ?_)
  intro b54
  refine k1 _ _ ?_
  refine normS [.hp (Hp.whole w), .hp h1, .hp h2, .hp h3, .hp h4, .hp h5, .hp o6.h, .hp h7, .hp o8.h, .box b45 [.int .i64 0, .int .i64 1] 3, .box b46 [.int .i64 2] 3, .box b47 [.int .i64 3] 3, .box b48 [.slice (some ⟨b45, 0, none⟩) 2 2, .slice (some ⟨b46, 0, none⟩) 1 1, .slice (some ⟨b47, 0, none⟩) 1 1] 42, .box b53 [.int .i64 2] 3, .box b54 [.slice (some ⟨b53, 0, none⟩) 1 1] 42] rfl ?_
  refine hideK 3 (fun q1 k1 => ?_)
  refine callV _ (fun w' hm => lists_spec w' (hs4.mono (encS_mono (encF_mono _) _) (hm 4 _ rfl)) (ex_rows1 (hm 13 _ rfl) (hm 14 _ rfl)) (by rw [e2] at l4; simp at l4; omega) (by rw [e2]; decide)) ?_
  refine k1 _ _ ?_
  refine hideK 5 (fun q1 k1 => ?_)
  refine dtrue e2 ?_
  intro b59
  refine callV _ (fun w' hm => equalInts_spec w' (hs6.mono (encF_mono _) (hm 6 _ rfl)) (Sl.box (f := fI) (fun _ => rfl) (by decide) (hm 15 _ rfl) [-1, 0, 1, -1] rfl rfl (by decide)) (by rw [e3] at l6; simp at l6; omega)) ?_
  refine k1 _ _ ?_
  refine hideK 5 (fun q1 k1 => ?_)
  refine dtrue e3 ?_
  intro b64
  refine callV _ (fun w' hm => equalInts_spec w' (hs8.mono (encF_mono _) (hm 8 _ rfl)) (Sl.box (f := fI) (fun _ => rfl) (by decide) (hm 16 _ rfl) [0, 1] rfl rfl (by decide)) (by rw [e4] at l8; simp at l8; omega)) ?_
  refine k1 _ _ ?_
  refine hq' _ _ ?_
  exact ⟨[], ⟨by rw [decide_eq_true e4], rfl⟩, fun w' h => h.pick [0] rfl rfl⟩
theorem known_spec (w : World) : CallsE Try.prog 14 #[] w (RetV w (.bool true)) :=
  known_aux w rfl rfl rfl rfl rfl (fun w h => comp_ex w h) (fun w h => sink_ex w h) (fun w h => tree_ex w h) (fun w h => cyc_ex w h)
end Go.Proofs.Ytdjhgcpmipglfaa
