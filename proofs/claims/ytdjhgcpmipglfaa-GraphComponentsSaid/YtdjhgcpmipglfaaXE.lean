/- Parts of one proof, joined: L1, L2, P1, L3, L4. No condition of its own. -/
import Derived.Test.YtdjhgcpmipglfaaXC
import Derived.Test.YtdjhgcpmipglfaaXB
import Derived.Test.YtdjhgcpmipglfaaXD
import Derived.KernelRfl
namespace Go.Proofs.Ytdjhgcpmipglfaa
open Go Go.RowKit Go.Dw
def befF (a b : Int × Int) : Bool := decide (a.1 < b.1) || (decide (a.1 = b.1) && decide (a.2 < b.2))
theorem before_spec (x y : Int × Int) (w : World) : CallsE Try.prog 102 #[.agg #[.int .i64 x.1, .int .i64 x.2], .agg #[.int .i64 y.1, .int .i64 y.2]] w (RetV w (.bool (befF x y))) := by
  refine enter (X := cx 24) (cxg _) (args := [.agg #[.int .i64 x.1, .int .i64 x.2], .agg #[.int .i64 y.1, .int .i64 y.2]]) [.tmp 4] Try.func102 rfl rfl rfl rfl rfl ?_
  intro b1 b2
  refine bsplitd (fun h => ?_) (fun h => ?_)
  · exact ⟨[], ⟨by simp [befF, h], rfl⟩, fun w' h => h.pick [0] rfl rfl⟩
  refine bsplitd (fun h2 => ?_) (fun h2 => ?_)
  · exact ⟨[], ⟨by simp [befF, h2], rfl⟩, fun w' h => h.pick [0] rfl rfl⟩
  · exact ⟨[], ⟨by simp [befF, h, h2], rfl⟩, fun w' h => h.pick [0] rfl rfl⟩
theorem inside_spec {a : Option Addr} {n c : Nat} {E : List (Int × Int)} (N : Int) (w : World) (hL : Sl (encF fE) 2 (Hp.whole w) a n c E) (hn : n < 1000000000000) :
    CallsE Try.prog 74 #[.int .i64 N, .slice a n c] w (RetV w (.bool (!E.any (outF N)))) := by
  have hlen := hL.len
  refine enter (X := cx 34) (cxg _) (args := [.int .i64 N, .slice a n c]) [.tmp 4] Try.func74 rfl rfl rfl rfl rfl ?_
  refine NeedL.mk Nat (fun k => [(0, .v (.int .i64 N)), (1, .v (.slice a n c)), (5, .v (.int .i64 k))]) (fun _ => [.hp (Hp.whole w)])
    (fun k => k ≤ n ∧ (E.take k).any (outF N) = false) (fun k => n - k) 0 ⟨Nat.zero_le _, rfl⟩ (Ent.mk (fun _ _ h => h) rfl rfl) ?_
  rintro k ⟨hk, ho⟩
  refine bsplitd (fun hlt => ?_) (fun hge => ?_)
  · have hlt' : k < E.length := by omega
    refine NeedL.mk Nat (fun j => [(0, .v (.int .i64 N)), (1, .v (.slice a n c)), (5, .v (.int .i64 k)), (6, .v (.int .i64 j))]) (fun _ => [.hp (Hp.whole w)])
      (fun j => j ≤ 2 ∧ (0 < j → beyondF N E[k].1 = false) ∧ (1 < j → beyondF N E[k].2 = false)) (fun j => 2 - j) 0 ⟨by omega, by omega, by omega⟩ (Ent.mk (fun _ _ h => h) rfl rfl) ?_
    rintro j ⟨hj, hj0, hj1⟩
    refine bsplitd (fun hl2 => ?_) (fun hg2 => ?_)
    · obtain rfl | rfl : j = 0 ∨ j = 1 := by omega
      · refine hideQ (fun q' hq' => ?_)
        refine idx (cxg _) (e := 85) rfl hL k rfl hlt' (fun b o cs hcs hR hcell => ?_)
        subst hR
        refine idxA (cxg _) rfl rfl rfl 0 rfl rfl ?_
        refine ld1 (cxg _) (i := 0) rfl (hcell 0 _ rfl) rfl ?_
        refine bsplitd (fun h => ?_) (fun h => ?_)
        · refine hq' _ _ ?_
          exact ⟨[], ⟨by rw [any_hit hlt' (by simp [outF, beyondF, h])]; rfl, rfl⟩, fun w' h => h⟩
        refine idx (cxg _) (e := 85) rfl hL k rfl hlt' (fun b o cs hcs hR hcell => ?_)
        subst hR
        refine idxA (cxg _) rfl rfl rfl 0 rfl rfl ?_
        refine ld1 (cxg _) (i := 0) rfl (hcell 0 _ rfl) rfl ?_
        refine hq' _ _ ?_
        refine bsplitd (fun h2 => ?_) (fun h2 => ?_)
        · exact ⟨[], ⟨by rw [any_hit hlt' (by simp [outF, beyondF, h2])]; rfl, rfl⟩, fun w' h => h⟩
        refine nw (by omega) (by omega) ?_
        exact ⟨1, ⟨by omega, fun _ => by simp [beyondF]; omega, by omega⟩, by omega, Ent.mk (fun _ _ h => h) rfl rfl⟩
      · have h10 := hj0 (by omega)
        refine hideQ (fun q' hq' => ?_)
        refine idx (cxg _) (e := 85) rfl hL k rfl hlt' (fun b o cs hcs hR hcell => ?_)
        subst hR
        refine idxA (cxg _) rfl rfl rfl 1 rfl rfl ?_
        refine ld1 (cxg _) (i := 0) rfl (hcell 1 _ rfl) rfl ?_
        refine bsplitd (fun h => ?_) (fun h => ?_)
        · refine hq' _ _ ?_
          exact ⟨[], ⟨by rw [any_hit hlt' (by simp [outF, beyondF, h])]; rfl, rfl⟩, fun w' h => h⟩
        refine idx (cxg _) (e := 85) rfl hL k rfl hlt' (fun b o cs hcs hR hcell => ?_)
        subst hR
        refine idxA (cxg _) rfl rfl rfl 1 rfl rfl ?_
        refine ld1 (cxg _) (i := 0) rfl (hcell 1 _ rfl) rfl ?_
        refine hq' _ _ ?_
        refine bsplitd (fun h2 => ?_) (fun h2 => ?_)
        · exact ⟨[], ⟨by rw [any_hit hlt' (by simp [outF, beyondF, h2])]; rfl, rfl⟩, fun w' h => h⟩
        refine nw (by omega) (by omega) ?_
        exact ⟨2, ⟨by omega, fun _ => h10, fun _ => by simp [beyondF]; omega⟩, by omega, Ent.mk (fun _ _ h => h) rfl rfl⟩
    · refine nw (by omega) (by omega) ?_
      exact ⟨k + 1, ⟨by omega, any_step hlt' ho (by simp [outF, hj0 (by omega), hj1 (by omega)])⟩, by omega, Ent.mk (fun _ _ h => h) rfl rfl⟩
  · rw [List.take_of_length_le (by omega)] at ho
    exact ⟨[], ⟨by rw [ho]; rfl, rfl⟩, fun w' h => h⟩
def hasF (E : List (Int × Int)) (x y : Int) : Bool := E.any fun e => decide (e.1 = x) && decide (e.2 = y)
theorem hasF_iff {E : List (Int × Int)} {x y : Int} : hasF E x y = true ↔ (x, y) ∈ E := by
  simp only [hasF, List.any_eq_true, Bool.and_eq_true, decide_eq_true_eq]
  constructor
  · rintro ⟨⟨p, q⟩, h, rfl, rfl⟩; exact h
  · intro h; exact ⟨_, h, rfl, rfl⟩
theorem Has_spec {a : Option Addr} {n c : Nat} {E : List (Int × Int)} (N x y : Int) (w : World) (hL : Sl (encF fE) 2 (Hp.whole w) a n c E) (hn : n < 1000000000000) :
    CallsE Try.prog 75 #[gv N a n c, .int .i64 x, .int .i64 y] w (RetV w (.bool (hasF E x y))) := by
  have hlen := hL.len
  refine enter (X := cx 33) (cxg _) (args := [.agg #[.int .i64 N, .slice a n c], .int .i64 x, .int .i64 y]) [.tmp 6] Try.func75 rfl rfl rfl rfl rfl ?_
  intro b1
  refine NeedL.mk Nat (fun k => [(1, .v (.int .i64 x)), (2, .v (.int .i64 y)), (3, .bx 1 0), (7, .v (.int .i64 k))]) (fun _ => [.hp (Hp.whole w), .box b1 [.int .i64 N, .slice a n c] 35])
    (fun k => k ≤ n ∧ ((E.take k).any fun e => decide (e.1 = x) && decide (e.2 = y)) = false) (fun k => n - k) 0 ⟨Nat.zero_le _, rfl⟩ (Ent.mk (fun _ _ h => h) rfl rfl) ?_
  rintro k ⟨hk, ho⟩
  refine bsplitd (fun hlt => ?_) (fun hge => ?_)
  · have hlt' : k < E.length := by omega
    refine hideQ (fun q' hq' => ?_)
    refine idx (cxg _) (e := 85) rfl hL k rfl hlt' (fun b o cs hcs hR hcell => ?_)
    subst hR
    refine idxA (cxg _) rfl rfl rfl 0 rfl rfl ?_
    refine ld1 (cxg _) (i := 0) rfl (hcell 0 _ rfl) rfl ?_
    refine bsplitd (fun h => ?_) (fun h => ?_)
    · refine idx (cxg _) (e := 85) rfl hL k rfl hlt' (fun b o cs hcs hR hcell => ?_)
      subst hR
      refine idxA (cxg _) rfl rfl rfl 1 rfl rfl ?_
      refine ld1 (cxg _) (i := 0) rfl (hcell 1 _ rfl) rfl ?_
      refine hq' _ _ ?_
      refine bsplitd (fun h2 => ?_) (fun h2 => ?_)
      · exact ⟨[], ⟨by rw [hasF, any_hit hlt' (by simp [h, h2])], rfl⟩, fun w' h => h.pick [0] rfl rfl⟩
      · refine nw (by omega) (by omega) ?_
        exact ⟨k + 1, ⟨by omega, any_step hlt' ho (by simp [h2])⟩, by omega, Ent.mk (fun _ _ h => h) rfl rfl⟩
    · refine hq' _ _ ?_
      refine nw (by omega) (by omega) ?_
      exact ⟨k + 1, ⟨by omega, any_step hlt' ho (by simp [h])⟩, by omega, Ent.mk (fun _ _ h => h) rfl rfl⟩
  · rw [List.take_of_length_le (by omega)] at ho
    exact ⟨[], ⟨by rw [hasF, ho], rfl⟩, fun w' h => h.pick [0] rfl rfl⟩
end Go.Proofs.Ytdjhgcpmipglfaa
namespace Go.Proofs.Ytdjhgcpmipglfaa
open Go Go.RowKit Go.Dw
def rowK (E : List (Int × Int)) (a k : Nat) : List (Int × Int) := ((List.range k).filter fun b : Nat => hasF E a b).map fun b : Nat => ((a : Int), (b : Int))
def mkK (E : List (Int × Int)) (N a : Nat) : List (Int × Int) := (List.range a).flatMap fun i => rowK E i N
def mkF (N : Nat) (E : List (Int × Int)) : List (Int × Int) := mkK E N N
theorem rowK_len (E : List (Int × Int)) (a k : Nat) : (rowK E a k).length ≤ k := by
  unfold rowK; rw [List.length_map]
  exact Nat.le_trans (List.length_filter_le _ _) (by simp)
theorem rowK_succ (E : List (Int × Int)) (a k : Nat) : rowK E a (k + 1) = if hasF E a k then rowK E a k ++ [((a : Int), (k : Int))] else rowK E a k := by
  unfold rowK
  rw [List.range_succ, List.filter_append, List.map_append]
  by_cases h : hasF E a k <;> simp [h]
theorem mkK_succ (E : List (Int × Int)) (N a : Nat) : mkK E N (a + 1) = mkK E N a ++ rowK E a N := by
  unfold mkK; rw [List.range_succ, List.flatMap_append]; simp
theorem mkK_len (E : List (Int × Int)) (N : Nat) : ∀ a, (mkK E N a).length ≤ a * N
  | 0 => by simp [mkK]
  | a + 1 => by
    rw [mkK_succ, List.length_append, Nat.succ_mul]
    exact Nat.add_le_add (mkK_len E N a) (rowK_len E a N)
/-- a graph of the reference, with an errno -/
def RetH (w : World) (r : Int × List (Int × Int) × Int) : Ending → World → Prop := Ret w fun v cs => ∃ o : Dw.Os, v = .tuple #[gv r.1 o.a o.n o.c, .int .i64 r.2.2] ∧ cs = [.hp o.h] ∧ OwnO fE 85 2 o r.2.1
def rmkR (N : Int) (E : List (Int × Int)) : Int × List (Int × Int) × Int := if N < 0 ∨ N > 64 ∨ E.any (outF N) = true then (0, [], 2) else (N, mkF N.toNat E, 0)
theorem Make_spec {a : Option Addr} {n c : Nat} {E : List (Int × Int)} (N : Int) (w : World) (hL : Sl (encF fE) 2 (Hp.whole w) a n c E) (hn : n < 1000000000000) :
    CallsE Try.prog 18 #[.int .i64 N, .slice a n c] w (RetH w (rmkR N E)) := by
  have hlen := hL.len
  have bad : (N < 0 ∨ N > 64 ∨ E.any (outF N) = true) → rmkR N E = (0, [], 2) := fun h => if_pos h
  refine enter (X := cx 51) (cxg _) (args := [.int .i64 N, .slice a n c]) [.cell 4 35, .tmp 5] Try.func18 rfl rfl rfl rfl rfl ?_
  intro b0
  refine bsplitd (fun h1 => ?_) (fun h1 => ?_)
  · exact ⟨[.hp Hp.emp], ⟨Os.nil, by rw [bad (.inl h1)]; rfl, rfl, by rw [bad (.inl h1)]; exact OwnO.nil _ _ _⟩, fun w' h => (h.pick [0] rfl rfl).emp⟩
  refine bsplitd (fun h2 => ?_) (fun h2 => ?_)
  · exact ⟨[.hp Hp.emp], ⟨Os.nil, by rw [bad (.inr (.inl h2))]; rfl, rfl, by rw [bad (.inr (.inl h2))]; exact OwnO.nil _ _ _⟩, fun w' h => (h.pick [0] rfl rfl).emp⟩
  refine callV _ (fun w' hm => inside_spec N w' (hL.mono (encF_mono _) (hm 0 _ rfl)) hn) ?_
  refine bsplit (fun h3 => ?_) (fun h3 => ?_)
  · rw [Bool.not_not] at h3
    exact ⟨[.hp Hp.emp], ⟨Os.nil, by rw [bad (.inr (.inr h3))]; rfl, rfl, by rw [bad (.inr (.inr h3))]; exact OwnO.nil _ _ _⟩, fun w' h => (h.pick [0] rfl rfl).emp⟩
  rw [Bool.not_not] at h3
  obtain ⟨M, rfl⟩ : ∃ M : Nat, N = M := ⟨N.toNat, by omega⟩
  have good : rmkR M E = ((M : Int), mkF M E, 0) := by unfold rmkR; rw [if_neg (by rw [h3]; simp; omega)]; rfl
  intro b6 b7
  refine NeedL.mk (Nat × Dw.Os) (fun g => [(0, .v (.int .i64 M)), (4, .bx 1 0), (6, .bx 2 0), (7, .bx 3 0), (8, .v (.int .i64 g.1))])
    (fun g => [.hp (Hp.whole w), .box b0 [.int .i64 0, .slice none 0 0] 35, .box b6 [.int .i64 M, .slice a n c] 35, .box b7 [.int .i64 M, g.2.v] 35, .hp g.2.h])
    (fun g => g.1 ≤ M ∧ OwnO fE 85 2 g.2 (mkK E M g.1)) (fun g => M - g.1) (0, Os.nil) ⟨Nat.zero_le _, OwnO.nil _ _ _⟩ (Ent.mk (fun _ _ h => h.emp) rfl rfl) ?_
  rintro ⟨i, o1⟩ ⟨hi, ho1⟩
  dsimp only at *
  refine bsplitd (fun hlt => ?_) (fun hge => ?_)
  · refine NeedL.mk (Nat × Dw.Os) (fun g => [(0, .v (.int .i64 M)), (4, .bx 1 0), (6, .bx 2 0), (7, .bx 3 0), (8, .v (.int .i64 i)), (9, .v (.int .i64 g.1))])
      (fun g => [.hp (Hp.whole w), .box b0 [.int .i64 0, .slice none 0 0] 35, .box b6 [.int .i64 M, .slice a n c] 35, .box b7 [.int .i64 M, g.2.v] 35, .hp g.2.h])
      (fun g => g.1 ≤ M ∧ OwnO fE 85 2 g.2 (mkK E M i ++ rowK E i g.1)) (fun g => M - g.1) (0, o1) ⟨Nat.zero_le _, by simpa [rowK] using ho1⟩ (Ent.mk (fun _ _ h => h) rfl rfl) ?_
    rintro ⟨j, o2⟩ ⟨hj, ho2⟩
    dsimp only at *
    have l1 := mkK_len E M i
    have l2 := rowK_len E i j
    have l3 : i * M ≤ 64 * 64 := Nat.mul_le_mul (by omega) (by omega)
    refine bsplitd (fun hlt2 => ?_) (fun hge2 => ?_)
    · have st := rowK_succ E i j
      refine callV _ (fun w' hm => Has_spec M i j w' (hL.mono (encF_mono _) (hm 0 _ rfl)) hn) ?_
      refine bsplit (fun hh => ?_) (fun hh => ?_)
      · rw [if_pos hh] at st
        intro b8
        refine appO (cxg _) (e := 85) rfl (i := 4) rfl ho2 (j := 5) ((i : Int), (j : Int)) rfl rfl rfl rfl (by simp only [List.length_append]; omega) (fun o' ho' => ?_)
        refine nw (by omega) (by omega) ?_
        exact ⟨(j + 1, o'), ⟨by dsimp only; omega, by dsimp only; rw [st, ← List.append_assoc]; exact ho'⟩, by dsimp only; omega, Ent.mk (fun _ _ h => h.pick [0, 1, 2, 3, 4] rfl rfl) rfl rfl⟩
      · rw [if_neg (by rw [hh]; exact Bool.false_ne_true)] at st
        refine nw (by omega) (by omega) ?_
        exact ⟨(j + 1, o2), ⟨by dsimp only; omega, by dsimp only; rw [st]; exact ho2⟩, by dsimp only; omega, Ent.mk (fun _ _ h => h.pick [0, 1, 2, 3, 4] rfl rfl) rfl rfl⟩
    · rw [show j = M by omega, ← mkK_succ] at ho2
      refine nw (by omega) (by omega) ?_
      exact ⟨(i + 1, o2), ⟨by dsimp only; omega, ho2⟩, by dsimp only; omega, Ent.mk (fun _ _ h => h) rfl rfl⟩
  · rw [show i = M by omega] at ho1
    exact ⟨[.hp o1.h], ⟨o1, by rw [good]; rfl, rfl, by rw [good]; exact ho1⟩, fun w' h => h.pick [0, 4] rfl rfl⟩
theorem befF_iff (x y : Int × Int) : befF x y = true ↔ orderF x y < 0 := by
  unfold befF orderF cmpI
  simp only [Bool.or_eq_true, Bool.and_eq_true, decide_eq_true_eq]
  split <;> split <;> (try split) <;> (try split) <;> omega
theorem RCheck_spec {a : Option Addr} {n c : Nat} {E : List (Int × Int)} (N : Int) (w : World) (hL : Sl (encF fE) 2 (Hp.whole w) a n c E) :
    CallsE Try.prog 67 #[gv N a n c] w (RetV w (.int .i64 (checkF N E))) := by
  have hlen := hL.len
  refine enter (X := cx 47) (cxg _) (args := [.agg #[.int .i64 N, .slice a n c]]) [.tmp 2] Try.func67 rfl rfl rfl rfl rfl ?_
  intro b
  refine bsplitd (fun h1 => ?_) (fun h1 => ?_)
  · exact ⟨[], ⟨by simp [checkF, h1], rfl⟩, fun w' h => h.pick [0] rfl rfl⟩
  refine bsplitd (fun h2 => ?_) (fun h2 => ?_)
  · exact ⟨[], ⟨by simp [checkF, h1, h2], rfl⟩, fun w' h => h.pick [0] rfl rfl⟩
  have hN : 0 ≤ N * N ∧ N * N ≤ 64 * 64 := ⟨Int.mul_nonneg (by omega) (by omega), Int.mul_le_mul (by omega) (by omega) (by omega) (by omega)⟩
  refine nw (by omega) (by omega) ?_
  refine bsplitd (fun h3 => ?_) (fun h3 => ?_)
  · exact ⟨[], ⟨by simp only [checkF]; rw [if_neg (by omega), if_pos (by omega)], rfl⟩, fun w' h => h.pick [0] rfl rfl⟩
  have hc1 : checkF N E = if E.any (outF N) then 2 else if sortedF E then 0 else 8 := by simp only [checkF]; rw [if_neg (by omega), if_neg (by omega)]
  refine callV _ (fun w' hm => inside_spec N w' (hL.mono (encF_mono _) (hm 0 _ rfl)) (by omega)) ?_
  refine bsplit (fun h4 => ?_) (fun h4 => ?_)
  · rw [Bool.not_not] at h4
    exact ⟨[], ⟨by rw [hc1, h4]; rfl, rfl⟩, fun w' h => h.pick [0] rfl rfl⟩
  rw [Bool.not_not] at h4
  rw [h4] at hc1
  refine NeedL.mk Nat (fun k => [(1, .bx 1 0), (3, .v (.int .i64 (k + 1 : Nat)))]) (fun _ => [.hp (Hp.whole w), .box b [.int .i64 N, .slice a n c] 35])
    (fun k => k ≤ n ∧ ((List.range k).all fun i => decide (orderF (E.getD i (0, 0)) (E.getD (i + 1) (0, 0)) < 0)) = true) (fun k => n - k) 0 ⟨Nat.zero_le _, rfl⟩ (Ent.mk (fun _ _ h => h) rfl rfl) ?_
  rintro k ⟨hk, ho⟩
  refine bsplitd (fun hlt => ?_) (fun hge => ?_)
  · have hlt' : k + 1 < E.length := by omega
    refine NeedD.by_order (cxg _) (.take 0 <| .take 1 <| .take 2 <| .take 3 <| .take 4 <| .take 5 <| .take 6 <| .take 7 <| .take 8 <| .take 9 <| .take 10 <| .run 11 <| .take 12 <| .done) (by kernel_rfl) ?_
    refine nw (by omega) (by omega) ?_
    refine idx (cxg _) (e := 85) rfl hL k (by omega) (by omega) (fun b o cs hcs hR hcell => ?_)
    subst hR
    refine ldn (cxg _) (i := 0) rfl hcell rfl ?_
    refine idx (cxg _) (e := 85) rfl hL (k + 1) rfl (by omega) (fun b o cs hcs hR hcell => ?_)
    subst hR
    refine ldn (cxg _) (i := 0) rfl hcell rfl ?_
    refine callV _ (fun w' _ => before_spec _ _ w') ?_
    refine ⟨subL_refl _, ?_⟩
    have hg1 : E.getD k (0, 0) = E[k] := by simp [List.getD, show k < E.length by omega]
    have hg2 : E.getD (k + 1) (0, 0) = E[k + 1] := by simp [List.getD, show k + 1 < E.length by omega]
    have hbf := befF_iff E[k] E[k + 1]
    refine bsplit (fun h6 => ?_) (fun h6 => ?_)
    · refine ⟨[], ⟨?_, rfl⟩, fun w' h => h.pick [0] rfl rfl⟩
      rw [Bool.not_eq_true'] at h6
      have : sortedF E = false := by
        rw [sortedF, List.all_eq_false]
        refine ⟨k, by simp; omega, ?_⟩
        rw [hg1, hg2, decide_eq_true_eq, ← hbf, h6]
        exact Bool.false_ne_true
      rw [hc1, this]; rfl
    · rw [Bool.not_eq_false'] at h6
      refine nw (by omega) (by omega) ?_
      refine ⟨k + 1, ⟨by omega, ?_⟩, by omega, Ent.mk (fun _ _ h => h) rfl rfl⟩
      rw [List.range_succ, List.all_append, ho, List.all_cons, hg1, hg2, decide_eq_true (hbf.1 h6)]
      rfl
  · refine ⟨[], ⟨?_, rfl⟩, fun w' h => h.pick [0] rfl rfl⟩
    have : sortedF E = true := by
      rw [sortedF, List.all_eq_true]
      intro i hi
      exact List.all_eq_true.1 ho i (by simp at hi ⊢; omega)
    rw [hc1, this]; rfl
end Go.Proofs.Ytdjhgcpmipglfaa
namespace Go.Proofs.Ytdjhgcpmipglfaa
open Go Go.RowKit Go.Dw
/-- the order of edges -/
def elt (a b : Int × Int) : Prop := a.1 < b.1 ∨ (a.1 = b.1 ∧ a.2 < b.2)
theorem elt_irrefl (a : Int × Int) : ¬ elt a a := by unfold elt; omega
theorem elt_trans {a b c : Int × Int} (h : elt a b) (k : elt b c) : elt a c := by unfold elt at *; omega
theorem elt_tri {a b : Int × Int} (h : ¬ elt a b) (k : ¬ elt b a) : a = b := by
  unfold elt at *
  exact Prod.ext (by omega) (by omega)
def Srt (L : List (Int × Int)) : Prop := L.Pairwise elt
theorem Srt.ext : ∀ {A B : List (Int × Int)}, Srt A → Srt B → (∀ x, x ∈ A ↔ x ∈ B) → A = B
  | [], [], _, _, _ => rfl
  | [], b :: B, _, _, h => by have := (h b).2 (by simp); simp at this
  | a :: A, [], _, _, h => by have := (h a).1 (by simp); simp at this
  | a :: A, b :: B, hA, hB, h => by
    have hA' := List.pairwise_cons.1 hA
    have hB' := List.pairwise_cons.1 hB
    have hab : a = b := by
      refine elt_tri (fun hlt => ?_) (fun hlt => ?_)
      · have := (h a).1 (by simp)
        rcases List.mem_cons.1 this with rfl | hm
        · exact elt_irrefl _ hlt
        · exact elt_irrefl _ (elt_trans hlt (hB'.1 a hm))
      · have := (h b).2 (by simp)
        rcases List.mem_cons.1 this with rfl | hm
        · exact elt_irrefl _ hlt
        · exact elt_irrefl _ (elt_trans hlt (hA'.1 b hm))
    subst hab
    rw [Srt.ext hA'.2 hB'.2 fun x => ?_]
    constructor
    · intro hx
      rcases List.mem_cons.1 ((h x).1 (by simp [hx])) with rfl | hm
      · exact absurd (hA'.1 _ hx) (elt_irrefl _)
      · exact hm
    · intro hx
      rcases List.mem_cons.1 ((h x).2 (by simp [hx])) with rfl | hm
      · exact absurd (hB'.1 _ hx) (elt_irrefl _)
      · exact hm
theorem dd_mem : ∀ {L : List (Int × Int)} {x : Int × Int}, x ∈ dd L ↔ x ∈ L
  | [], x => by simp [dd]
  | [y], x => by simp [dd]
  | y :: z :: r, x => by
    rw [dd]
    split
    · rename_i h; subst h
      rw [dd_mem (L := y :: r)]; simp
    · rw [List.mem_cons, dd_mem (L := z :: r)]; simp
theorem dd_srt : ∀ {L : List (Int × Int)}, L.Pairwise (fun a b => ¬ elt b a) → Srt (dd L)
  | [], _ => by simp [dd, Srt]
  | [y], _ => by simp [dd, Srt]
  | y :: z :: r, h => by
    have h' := List.pairwise_cons.1 h
    rw [dd]
    split
    · exact dd_srt h'.2
    · rename_i hne
      refine List.pairwise_cons.2 ⟨fun x hx => ?_, dd_srt h'.2⟩
      have hx' : x ∈ z :: r := dd_mem.1 hx
      have hyz : elt y z := Classical.byContradiction fun hn => hne (elt_tri hn (h'.1 z (by simp)))
      rcases List.mem_cons.1 hx' with rfl | hm
      · exact hyz
      · have := (List.pairwise_cons.1 h'.2).1 x hm
        refine Classical.byContradiction fun hn => ?_
        have hxy := h'.1 x hx'
        have e := elt_tri hn hxy
        subst e
        exact this hyz
theorem sortF_pw (L : List (Int × Int)) : (sortF L).Pairwise (fun a b => ¬ elt b a) := by
  have := List.pairwise_mergeSort (le := fun x y => !(ltOf orderF) y x) (fun a b c => by
    simp only [ltOf_order, Bool.not_eq_true', decide_eq_false_iff_not]; omega) (fun a b => by
    simp only [ltOf_order, Bool.or_eq_true, Bool.not_eq_true', decide_eq_false_iff_not]; omega) L
  refine List.Pairwise.imp (fun {a b} h => ?_) this
  simp only [ltOf_order, Bool.not_eq_true', decide_eq_false_iff_not] at h
  exact h
theorem srt_make (L : List (Int × Int)) : Srt (dd (sortF L)) := dd_srt (sortF_pw L)
theorem mkK_mem {E : List (Int × Int)} {N a : Nat} {x : Int × Int} : x ∈ mkK E N a ↔ x ∈ E ∧ 0 ≤ x.1 ∧ x.1 < a ∧ 0 ≤ x.2 ∧ x.2 < N := by
  unfold mkK rowK
  simp only [List.mem_flatMap, List.mem_range, List.mem_map, List.mem_filter, hasF_iff]
  constructor
  · rintro ⟨i, hi, j, ⟨hj, hm⟩, rfl⟩
    exact ⟨hm, by dsimp only; omega, by dsimp only; omega, by dsimp only; omega, by dsimp only; omega⟩
  · rintro ⟨hm, h1, h2, h3, h4⟩
    have e1 := Int.toNat_of_nonneg h1
    have e2 := Int.toNat_of_nonneg h3
    exact ⟨x.1.toNat, by omega, x.2.toNat, ⟨by omega, by rw [e1, e2]; exact hm⟩, by rw [e1, e2]⟩
theorem pw_range (k : Nat) : (List.range k).Pairwise (· < ·) := List.pairwise_lt_range
theorem rowK_srt (E : List (Int × Int)) (a k : Nat) : Srt (rowK E a k) := by
  unfold rowK Srt
  rw [List.pairwise_map]
  refine List.Pairwise.filter _ (List.Pairwise.imp (fun {x y} h => ?_) (pw_range k))
  unfold elt; dsimp only; omega
theorem mkK_srt (E : List (Int × Int)) (N : Nat) : ∀ a, Srt (mkK E N a)
  | 0 => by simp [mkK, Srt]
  | a + 1 => by
    rw [mkK_succ]
    refine List.pairwise_append.2 ⟨mkK_srt E N a, rowK_srt E a N, fun x hx y hy => ?_⟩
    have h1 := (mkK_mem.1 hx).2.2.1
    unfold rowK at hy
    obtain ⟨j, _, rfl⟩ := List.mem_map.1 hy
    unfold elt; dsimp only; omega
theorem mkF_srt (N : Nat) (E : List (Int × Int)) : Srt (mkF N E) := mkK_srt E N N
theorem mkF_mem {N : Nat} {E : List (Int × Int)} {x : Int × Int} : x ∈ mkF N E ↔ x ∈ E ∧ outF N x = false := by
  unfold mkF
  rw [mkK_mem]
  simp only [outF, beyondF, Bool.or_eq_false_iff, decide_eq_false_iff_not]
  constructor
  · rintro ⟨h, h1, h2, h3, h4⟩; exact ⟨h, ⟨by omega, by omega⟩, by omega, by omega⟩
  · rintro ⟨h, ⟨h1, h2⟩, h3, h4⟩; exact ⟨h, by omega, by omega, by omega, by omega⟩
theorem make_eq {N : Nat} {E : List (Int × Int)} (h : E.any (outF N) = false) : dd (sortF E) = mkF N E := by
  refine Srt.ext (srt_make E) (mkF_srt N E) fun x => ?_
  rw [dd_mem, sortF_mem, mkF_mem]
  refine ⟨fun hx => ⟨hx, ?_⟩, fun hx => hx.1⟩
  have := List.any_eq_false.1 h x hx
  simpa using this
theorem makeR_rmkR (N : Int) (E : List (Int × Int)) : makeR N E = rmkR N E := by
  unfold makeR rmkR
  by_cases h1 : N < 0 ∨ N > 64
  · rw [if_pos h1, if_pos (by rcases h1 with h | h; exact .inl h; exact .inr (.inl h))]
  · rw [if_neg h1]
    cases h2 : E.any (outF N) with
    | true => rw [if_pos rfl, if_pos (.inr (.inr rfl))]
    | false =>
      rw [if_neg Bool.false_ne_true, if_neg (by simp; omega)]
      obtain ⟨M, rfl⟩ : ∃ M : Nat, N = M := ⟨N.toNat, by omega⟩
      rw [make_eq h2]; rfl
theorem srt_sortedF : ∀ {L : List (Int × Int)}, Srt L → sortedF L = true := by
  intro L h
  unfold sortedF
  rw [List.all_eq_true]
  intro i hi
  have hi' : i + 1 < L.length := by have := List.mem_range.1 hi; omega
  rw [decide_eq_true_eq, order_lt]
  have e1 : L.getD i (0, 0) = L[i] := by simp [List.getD, show i < L.length by omega]
  have e2 : L.getD (i + 1) (0, 0) = L[i + 1] := by simp [List.getD, hi']
  rw [e1, e2]
  exact List.pairwise_iff_getElem.1 h i (i + 1) (by omega) hi' (by omega)
theorem make_check {N : Int} {E : List (Int × Int)} (h : (makeR N E).2.2 = 0) : checkF (makeR N E).1 (makeR N E).2.1 = 0 := by
  rw [makeR_rmkR] at *
  unfold rmkR at *
  split at h
  · cases h
  · rename_i hn
    rw [if_neg hn]
    dsimp only
    have hn1 : ¬ (N < 0 ∨ N > 64) := fun h => hn (by rcases h with h | h; exact .inl h; exact .inr (.inl h))
    obtain ⟨M, rfl⟩ : ∃ M : Nat, N = M := ⟨N.toNat, by omega⟩
    unfold checkF
    have hl : (mkF M E).length ≤ M * M := mkK_len E M M
    rw [Int.toNat_natCast, if_neg hn1, if_neg (by rw [← Int.natCast_mul]; omega), if_neg, srt_sortedF (mkF_srt M E), if_pos rfl]
    rw [Bool.not_eq_true, List.any_eq_false]
    intro x hx
    rw [(mkF_mem.1 hx).2]; exact Bool.false_ne_true
end Go.Proofs.Ytdjhgcpmipglfaa
namespace Go.Proofs.Ytdjhgcpmipglfaa
open Go Go.RowKit Go.Dw
theorem pairs_spec {a : Option Addr} {n c : Nat} {E : List (Int × Int)} (w : World) (hL : Sl (encF fE) 2 (Hp.whole w) a n c E) (hn : n < 100000000000) :
    CallsE Try.prog 19 #[.slice a n c] w (Ret w fun v cs => ∃ o : Dw.Os, v = o.v ∧ cs = [.hp o.h] ∧ OwnO fE 85 2 o E) := by
  have hlen := hL.len
  refine enter (X := cx 22) (cxg _) (args := [.slice a n c]) [.tmp 2] Try.func19 rfl rfl rfl rfl rfl ?_
  refine NeedL.mk (Nat × Dw.Os) (fun g => [(3, .v g.2.v), (6, .v (.slice a n c)), (7, .v (.int .i64 n)), (8, .v (.int .i64 g.1))]) (fun g => [.hp (Hp.whole w), .hp g.2.h])
    (fun g => g.1 ≤ n ∧ OwnO fE 85 2 g.2 (E.take g.1)) (fun g => n - g.1) (0, Os.nil) ⟨Nat.zero_le _, OwnO.nil _ _ _⟩ (Ent.mk (fun _ _ h => h.emp) rfl rfl) ?_
  rintro ⟨k, o1⟩ ⟨hk, ho⟩
  dsimp only at *
  refine bsplitd (fun hlt => ?_) (fun hge => ?_)
  · have hlt' : k < E.length := by omega
    refine idx (cxg _) (e := 32) rfl hL k rfl hlt' (fun b1 o cs hcs hR hcell => ?_)
    subst hR
    refine ldn (cxg _) (i := 0) rfl hcell rfl ?_
    intro b4 b5
    refine appO (cxg _) (e := 85) rfl (i := 1) rfl ho (j := 3) E[k] rfl rfl rfl rfl (by rw [List.length_take]; omega) (fun o' ho' => ?_)
    refine nw (by omega) (by omega) ?_
    exact ⟨(k + 1, o'), ⟨by dsimp only; omega, by dsimp only; rw [List.take_succ_eq_append_getElem hlt']; exact ho'⟩, by dsimp only; omega, Ent.mk (fun _ _ h => h.pick [0, 1] rfl rfl) rfl rfl⟩
  · rw [List.take_of_length_le (by omega)] at ho
    exact ⟨[.hp o1.h], ⟨o1, rfl, rfl, ho⟩, fun w' h => h⟩
theorem plain_spec {a : Option Addr} {n c : Nat} {E : List (Int × Int)} (N : Int) (w : World) (hL : Sl (encF fE) 2 (Hp.whole w) a n c E) (hn : n < 100000000000) :
    CallsE Try.prog 26 #[gv N a n c] w (Ret w fun v cs => ∃ o : Dw.Os, v = gv N o.a o.n o.c ∧ cs = [.hp o.h] ∧ OwnO fE 85 2 o E) := by
  refine enter (X := cx 9) (cxg _) (args := [.agg #[.int .i64 N, .slice a n c]]) [.cell 2 35] Try.func26 rfl rfl rfl rfl rfl ?_
  intro b1 b2
  refine NeedD.by_order0 (cxg _) (.take 0 <| .take 1 <| .take 2 <| .take 3 <| .run 4 <| .take 5 <| .run 6 <| .done) (by kernel_rfl) (subL_blank _ 2) ?_
  refine call (fun w' hm => pairs_spec w' (hL.mono (encF_mono _) (hm 0 _ rfl)) hn) ?_
  rintro _ _ ⟨o, rfl, rfl, ho⟩
  refine ⟨(by repeat first | exact trivial | refine ⟨.inl rfl, ?_⟩ | refine ⟨.inr rfl, ?_⟩), ?_⟩
  exact ⟨[.hp o.h], ⟨o, rfl, rfl, ho⟩, fun w' h => h.pick [0, 3] rfl rfl⟩
theorem copied_spec {a : Option Addr} {n c : Nat} {E : List (Int × Int)} (N : Int) (w : World) (hL : Sl (encF fE) 2 (Hp.whole w) a n c E) (hn : n < 100000000) :
    CallsE Try.prog 24 #[gv N a n c] w (Ret w fun v cs => ∃ o : Dw.Os, v = gv N o.a o.n o.c ∧ cs = [.hp o.h] ∧ OwnO fE 32 2 o E) := by
  refine enter (X := cx 9) (cxg _) (args := [.agg #[.int .i64 N, .slice a n c]]) [.cell 2 26] Try.func24 rfl rfl rfl rfl rfl ?_
  intro b1 b2
  refine NeedD.by_order0 (cxg _) (.take 0 <| .take 1 <| .take 2 <| .take 3 <| .run 4 <| .take 5 <| .run 6 <| .done) (by kernel_rfl) (subL_blank _ 2) ?_
  refine call (fun w' hm => cloneEdges_spec w' (hL.mono (encF_mono _) (hm 0 _ rfl)) (by omega)) ?_
  rintro _ _ ⟨o, rfl, rfl, ho⟩
  refine ⟨(by repeat first | exact trivial | refine ⟨.inl rfl, ?_⟩ | refine ⟨.inr rfl, ?_⟩), ?_⟩
  exact ⟨[.hp o.h], ⟨o, rfl, rfl, ho⟩, fun w' h => h.pick [0, 3] rfl rfl⟩
def fewF (N : Int) (E : List (Int × Int)) : Bool := decide (E.length ≤ 24) && (decide (N ≤ 8) || decide (N > 64))
theorem few_spec {a : Option Addr} {n c : Nat} {E : List (Int × Int)} (N : Int) (w : World) (hL : Sl (encF fE) 2 (Hp.whole w) a n c E) :
    CallsE Try.prog 15 #[gv N a n c] w (RetV w (.bool (fewF N E))) := by
  have hlen := hL.len
  refine enter (X := cx 17) (cxg _) (args := [.agg #[.int .i64 N, .slice a n c]]) [.tmp 2] Try.func15 rfl rfl rfl rfl rfl ?_
  intro b1
  refine bsplitd (fun h1 => ?_) (fun h1 => ?_)
  · have e1 : fewF N E = (decide (N ≤ 8) || decide (N > 64)) := by unfold fewF; rw [decide_eq_true (by omega)]; rfl
    refine bsplitd (fun h2 => ?_) (fun h2 => ?_)
    · exact ⟨[], ⟨by rw [e1, decide_eq_true h2]; rfl, rfl⟩, fun w' h => h.pick [0] rfl rfl⟩
    · exact ⟨[], ⟨by rw [e1, decide_eq_false h2]; rfl, rfl⟩, fun w' h => h.pick [0] rfl rfl⟩
  · exact ⟨[], ⟨by unfold fewF; rw [decide_eq_false (by omega)]; rfl, rfl⟩, fun w' h => h.pick [0] rfl rfl⟩
theorem same_spec {a a' : Option Addr} {n c n' c' : Nat} {E E' : List (Int × Int)} (N N' : Int) (w : World) (hL : Sl (encF fE) 2 (Hp.whole w) a n c E) (hL' : Sl (encF fE) 2 (Hp.whole w) a' n' c' E') (hn : n < 100000000) :
    CallsE Try.prog 20 #[gv N a n c, gv N' a' n' c'] w (RetV w (.bool (decide (N = N') && decide (E = E')))) := by
  have hlen := hL.len
  refine enter (X := cx 18) (cxg _) (args := [.agg #[.int .i64 N, .slice a n c], .agg #[.int .i64 N', .slice a' n' c']]) [.tmp 4] Try.func20 rfl rfl rfl rfl rfl ?_
  intro b1 b2
  refine NeedD.by_order (cxg _) (.take 0 <| .take 1 <| .take 2 <| .take 3 <| .take 4 <| .take 5 <| .take 6 <| .take 7 <| .take 9 <| .take 10 <| .run 8 <| .run 11 <| .take 12 <| .take 13 <| .done) (by kernel_rfl) ?_
  refine bsplitd (fun h1 => ?_) (fun h1 => ?_)
  · refine call (fun w' hm => pairs_spec w' (hL.mono (encF_mono _) (hm 0 _ rfl)) (by omega)) ?_
    rintro _ _ ⟨o, rfl, rfl, ho⟩
    have hs := OwnO.sl (f := fE) (fun _ => rfl) (by decide) ho
    refine ⟨(by repeat first | exact trivial | refine ⟨.inl rfl, ?_⟩ | refine ⟨.inr rfl, ?_⟩), ?_⟩
    refine callV _ (fun w' hm => equalPairs_spec w' (hs.mono (encF_mono _) (hm 3 _ rfl)) (hL'.mono (encF_mono _) (hm 0 _ rfl)) (by have := ho.len; omega)) ?_
    refine ⟨(by repeat first | exact trivial | refine ⟨.inl rfl, ?_⟩ | refine ⟨.inr rfl, ?_⟩), ?_⟩
    exact ⟨[], ⟨by rw [decide_eq_true h1]; rfl, rfl⟩, fun w' h => h.pick [0] rfl rfl⟩
  · refine ⟨(by repeat first | exact trivial | refine ⟨.inl rfl, ?_⟩ | refine ⟨.inr rfl, ?_⟩), ?_⟩
    refine ⟨(by repeat first | exact trivial | refine ⟨.inl rfl, ?_⟩ | refine ⟨.inr rfl, ?_⟩), ?_⟩
    exact ⟨[], ⟨by rw [decide_eq_false h1]; rfl, rfl⟩, fun w' h => h.pick [0] rfl rfl⟩
def fineF (N : Int) (E : List (Int × Int)) : Bool := fewF N E && decide (checkF N E = 0)
theorem fine_spec {a : Option Addr} {n c : Nat} {E : List (Int × Int)} (N : Int) (w : World) (hL : Sl (encF fE) 2 (Hp.whole w) a n c E) :
    CallsE Try.prog 22 #[gv N a n c] w (RetV w (.bool (fineF N E))) := by
  have hlen := hL.len
  refine enter (X := cx 11) (cxg _) (args := [.agg #[.int .i64 N, .slice a n c]]) [.tmp 2] Try.func22 rfl rfl rfl rfl rfl ?_
  intro b1
  refine callV _ (fun w' hm => few_spec N w' (hL.mono (encF_mono _) (hm 0 _ rfl))) ?_
  refine bsplit (fun h1 => ?_) (fun h1 => ?_)
  · have hl : E.length ≤ 24 := by
      unfold fewF at h1
      simp only [Bool.and_eq_true, decide_eq_true_eq] at h1
      exact h1.1
    refine call (fun w' hm => plain_spec N w' (hL.mono (encF_mono _) (hm 0 _ rfl)) (by omega)) ?_
    rintro _ _ ⟨o, rfl, rfl, ho⟩
    have hs := OwnO.sl (f := fE) (fun _ => rfl) (by decide) ho
    refine callV _ (fun w' hm => RCheck_spec N w' (hs.mono (encF_mono _) (hm 2 _ rfl))) ?_
    exact ⟨[], ⟨by unfold fineF; rw [h1]; rfl, rfl⟩, fun w' h => h.pick [0] rfl rfl⟩
  · exact ⟨[], ⟨by unfold fineF; rw [h1]; rfl, rfl⟩, fun w' h => h.pick [0] rfl rfl⟩
def exE : List (Int × Int) := [(0, 1), (1, 0), (1, 2), (3, 2)]
theorem Example_spec (w : World) : CallsE Try.prog 69 #[] w (Ret w fun v cs => ∃ a n c h, v = gv 4 a n c ∧ cs = [.hp h] ∧ Sl (encF fE) 2 h a n c exE) := by
  refine enter (X := cx 7) (cxg _) (args := []) [.cell 0 26] Try.func69 rfl rfl rfl rfl rfl ?_
  intro b1 b2
  refine ⟨[.hp _], ⟨_, _, _, _, rfl, rfl, ?_⟩, fun w' h => Ok.same (s := [.hp (Hp.whole w), .box b2 (exE.flatMap fE) 32]) (i := 1) (c := .box b2 (exE.flatMap fE) 32) (d := .hp (Ch.box b2 (exE.flatMap fE) 32).h) rfl rfl (h.pick [0, 2] rfl rfl)⟩
  exact OwnO.sl (f := fE) (sz := 2) (fun _ => rfl) (by decide) (OwnO.box (f := fE) (sz := 2) (T := 32) (fun _ => rfl) exE rfl rfl (by decide))
theorem lists_spec {a a' : Option Addr} {n c n' c' : Nat} {L L' : List (List Int)} (w : World) (hL : Sl (encS (encF fI) 1) 1 (Hp.whole w) a n c L) (hL' : Sl (encS (encF fI) 1) 1 (Hp.whole w) a' n' c' L') (hn : n < 1000000000) (hb : ∀ x ∈ L, x.length < 1000000000) :
    CallsE Try.prog 49 #[.slice a n c, .slice a' n' c'] w (RetV w (.bool (decide (L = L')))) := by
  refine enter (X := cx 8) (cxg _) (args := [.slice a n c, .slice a' n' c']) [.tmp 4] Try.func49 rfl rfl rfl rfl rfl ?_
  refine callV _ (fun w' hm => equalRows_spec w' (hL.mono (encS_mono (encF_mono _) _) (hm 0 _ rfl)) (hL'.mono (encS_mono (encF_mono _) _) (hm 0 _ rfl)) hn hb) ?_
  exact ⟨[], ⟨rfl, rfl⟩, fun w' h => h.pick [0] rfl rfl⟩
end Go.Proofs.Ytdjhgcpmipglfaa
namespace Go.Proofs.Ytdjhgcpmipglfaa
open Go Go.RowKit Go.Dw
theorem Sl.boxR {b T : Nat} {cs : List Value} {w : World} (hh : (Ch.box b cs T).h.In w) {LL : List (List Int)} (hr : Rds (Hp.whole w) cs LL) {n : Nat} (hn : n = cs.length) : Sl (encS (encF fI) 1) 1 (Hp.whole w) (some ⟨b, 0, none⟩) n n LL := by
  have hl := hr.len
  refine ⟨by omega, Nat.le_refl _, fun i hi => ?_⟩
  have hi' : i < cs.length := by omega
  refine ⟨b, 0, [cs[i]], rfl, rfl, hr.get i _ _ (List.getElem?_eq_getElem hi') (List.getElem?_eq_getElem hi), fun j v hj => ?_⟩
  obtain rfl : j = 0 := by
    have := (List.getElem?_eq_some_iff.1 hj).1
    simpa using this
  cases hj
  have h1 : (Ch.box b cs T).h.cell? ⟨b, i, none⟩ = some cs[i] := by
    simp [Ch.h, Hp.cell?, Hp.one, hi']
  rw [show 0 + i * 1 + 0 = i by omega]
  exact Hp.le.cell hh h1
theorem exC : checkF 4 exE = 0 := by decide
theorem exComp : compR 4 exE = [[0, 1], [2], [3]] := by kernel_rfl
theorem exSink : sinkR 4 exE = [[2]] := by
  unfold sinkR sinkF sinkK isSink condR
  simp only [makeR_rmkR]
  kernel_rfl
theorem exTree : treeR 4 exE 0 (fun k => lastBut (pathF (4 : Int).toNat exE 0 k)) = [-1, 0, 1, -1] := by kernel_rfl
theorem exSing : singleF 4 exE [0] = 0 := by kernel_rfl
theorem exCyc : cycR 4 exE = [0, 1] := by kernel_rfl
theorem exCycC : cycC 4 exE = 0 := by kernel_rfl
theorem comp_ex {a : Option Addr} {n c : Nat} (w : World) (hL : Sl (encF fE) 2 (Hp.whole w) a n c exE) : CallsE Try.prog 45 #[gv 4 a n c] w (RetR w [[0, 1], [2], [3]] 0) := by
  have := Components_spec 4 w hL
  rw [exComp, exC] at this; exact this
theorem sink_ex {a : Option Addr} {n c : Nat} (w : World) (hL : Sl (encF fE) 2 (Hp.whole w) a n c exE) : CallsE Try.prog 39 #[gv 4 a n c] w (RetR w [[2]] 0) := by
  have := Sinks_spec 4 w hL
  rw [exSink, exC] at this; exact this
theorem tree_ex {a : Option Addr} {n c : Nat} (w : World) (hL : Sl (encF fE) 2 (Hp.whole w) a n c exE) : CallsE Try.prog 27 #[gv 4 a n c, .int .i64 0] w (RetI w [-1, 0, 1, -1] 0) := by
  have := Tree_spec 4 0 w hL
  rw [exTree, exSing] at this; exact this
theorem cyc_ex {a : Option Addr} {n c : Nat} (w : World) (hL : Sl (encF fE) 2 (Hp.whole w) a n c exE) : CallsE Try.prog 33 #[gv 4 a n c] w (RetI w [0, 1] 0) := by
  have := Cycle_spec 4 w hL
  rw [exCyc, exCycC] at this; exact this
theorem ex_rows3 {b1 b2 b3 b4 T1 T2 T3 T4 : Nat} {w : World} (h1 : (Ch.box b1 [.int .i64 0, .int .i64 1] T1).h.In w) (h2 : (Ch.box b2 [.int .i64 2] T2).h.In w) (h3 : (Ch.box b3 [.int .i64 3] T3).h.In w)
    (h4 : (Ch.box b4 [.slice (some ⟨b1, 0, none⟩) 2 2, .slice (some ⟨b2, 0, none⟩) 1 1, .slice (some ⟨b3, 0, none⟩) 1 1] T4).h.In w) : Sl (encS (encF fI) 1) 1 (Hp.whole w) (some ⟨b4, 0, none⟩) 3 3 [[0, 1], [2], [3]] :=
  Sl.boxR h4 ((((Rds.nil _).push ⟨_, _, _, rfl, Sl.box (f := fI) (fun _ => rfl) (by decide) h1 [0, 1] rfl rfl (by decide)⟩).push ⟨_, _, _, rfl, Sl.box (f := fI) (fun _ => rfl) (by decide) h2 [2] rfl rfl (by decide)⟩).push
      ⟨_, _, _, rfl, Sl.box (f := fI) (fun _ => rfl) (by decide) h3 [3] rfl rfl (by decide)⟩) rfl
theorem ex_rows1 {b1 b4 T1 T4 : Nat} {w : World} (h1 : (Ch.box b1 [.int .i64 2] T1).h.In w) (h4 : (Ch.box b4 [.slice (some ⟨b1, 0, none⟩) 1 1] T4).h.In w) : Sl (encS (encF fI) 1) 1 (Hp.whole w) (some ⟨b4, 0, none⟩) 1 1 [[2]] :=
  Sl.boxR h4 ((Rds.nil _).push ⟨_, _, _, rfl, Sl.box (f := fI) (fun _ => rfl) (by decide) h1 [2] rfl rfl (by decide)⟩) rfl
set_option maxRecDepth 10000 in
/-- the four contracts, their results as variables -/
theorem known_aux (w : World) {e : Int} {L1 L2 : List (List Int)} {L3 L4 : List Int} (he : e = 0) (e1 : L1 = [[0, 1], [2], [3]]) (e2 : L2 = [[2]]) (e3 : L3 = [-1, 0, 1, -1]) (e4 : L4 = [0, 1])
    (k1 : ∀ {a : Option Addr} {n c : Nat} (w : World), Sl (encF fE) 2 (Hp.whole w) a n c exE → CallsE Try.prog 45 #[gv 4 a n c] w (RetR w L1 e))
    (k2 : ∀ {a : Option Addr} {n c : Nat} (w : World), Sl (encF fE) 2 (Hp.whole w) a n c exE → CallsE Try.prog 39 #[gv 4 a n c] w (RetR w L2 e))
    (k3 : ∀ {a : Option Addr} {n c : Nat} (w : World), Sl (encF fE) 2 (Hp.whole w) a n c exE → CallsE Try.prog 27 #[gv 4 a n c, .int .i64 0] w (RetI w L3 e))
    (k4 : ∀ {a : Option Addr} {n c : Nat} (w : World), Sl (encF fE) 2 (Hp.whole w) a n c exE → CallsE Try.prog 33 #[gv 4 a n c] w (RetI w L4 e)) :
    CallsE Try.prog 14 #[] w (RetV w (.bool true)) := by
  refine enter (X := cx 67) (cxg _) (args := []) [.tmp 0] Try.func14 rfl rfl rfl rfl rfl ?_
  refine call (fun w' _ => Example_spec w') ?_
  rintro _ _ ⟨a1, n1, c1, h1, rfl, rfl, hs1⟩
  refine call (fun w' hm => k1 w' (hs1.mono (encF_mono _) (hm 1 _ rfl))) ?_
  rintro _ _ ⟨a2, n2, c2, h2, rfl, rfl, hs2⟩
  refine call (fun w' _ => Example_spec w') ?_
  rintro _ _ ⟨a3, n3, c3, h3, rfl, rfl, hs3⟩
  refine call (fun w' hm => k2 w' (hs3.mono (encF_mono _) (hm 3 _ rfl))) ?_
  rintro _ _ ⟨a4, n4, c4, h4, rfl, rfl, hs4⟩
  refine call (fun w' _ => Example_spec w') ?_
  rintro _ _ ⟨a5, n5, c5, h5, rfl, rfl, hs5⟩
  refine call (fun w' hm => k3 w' (hs5.mono (encF_mono _) (hm 5 _ rfl))) ?_
  rintro _ _ ⟨o6, rfl, rfl, ho6⟩
  refine call (fun w' _ => Example_spec w') ?_
  rintro _ _ ⟨a7, n7, c7, h7, rfl, rfl, hs7⟩
  refine call (fun w' hm => k4 w' (hs7.mono (encF_mono _) (hm 7 _ rfl))) ?_
  rintro _ _ ⟨o8, rfl, rfl, ho8⟩
  have hs6 := OwnO.sl (f := fI) (fun _ => rfl) (by decide) ho6
  have hs8 := OwnO.sl (f := fI) (fun _ => rfl) (by decide) ho8
  have l2 := hs2.len
  have l4 := hs4.len
  have l6 := hs6.len
  have l8 := hs8.len
  refine hideQ (fun _ h => h _ _ ?_)
  refine hideQ (fun q' hq' => ?_)
  refine normS [.hp (Hp.whole w), .hp h1, .hp h2, .hp h3, .hp h4, .hp h5, .hp o6.h, .hp h7, .hp o8.h] rfl ?_
  refine hideK 3 (fun q1 k1 => ?_)
  refine k1 _ _ ?_
  refine hideK 4 (fun q1 k1 => ?_)
  refine dtrue he ?_
  refine k1 _ _ ?_
  refine hideK 4 (fun q1 k1 => ?_)
  refine dtrue he ?_
  refine k1 _ _ ?_
  refine hideK 4 (fun q1 k1 => ?_)
  refine dtrue he ?_
  refine k1 _ _ ?_
  refine hideK 2 (fun q1 k1 => ?_)
  refine dtrue he ?_
  intro b45
  refine k1 _ _ ?_
  refine normS [.hp (Hp.whole w), .hp h1, .hp h2, .hp h3, .hp h4, .hp h5, .hp o6.h, .hp h7, .hp o8.h, .box b45 [.int .i64 0, .int .i64 1] 3] rfl ?_
  refine hideK 1 (fun q1 k1 => ?_)
  intro b46
  refine k1 _ _ ?_
  refine normS [.hp (Hp.whole w), .hp h1, .hp h2, .hp h3, .hp h4, .hp h5, .hp o6.h, .hp h7, .hp o8.h, .box b45 [.int .i64 0, .int .i64 1] 3, .box b46 [.int .i64 2] 3] rfl ?_
  refine hideK 1 (fun q1 k1 => ?_)
  intro b47
  refine k1 _ _ ?_
  refine normS [.hp (Hp.whole w), .hp h1, .hp h2, .hp h3, .hp h4, .hp h5, .hp o6.h, .hp h7, .hp o8.h, .box b45 [.int .i64 0, .int .i64 1] 3, .box b46 [.int .i64 2] 3, .box b47 [.int .i64 3] 3] rfl ?_
  refine hideK 1 (fun q1 k1 => ?_)
  intro b48
  refine k1 _ _ ?_
  refine normS [.hp (Hp.whole w), .hp h1, .hp h2, .hp h3, .hp h4, .hp h5, .hp o6.h, .hp h7, .hp o8.h, .box b45 [.int .i64 0, .int .i64 1] 3, .box b46 [.int .i64 2] 3, .box b47 [.int .i64 3] 3, .box b48 [.slice (some ⟨b45, 0, none⟩) 2 2, .slice (some ⟨b46, 0, none⟩) 1 1, .slice (some ⟨b47, 0, none⟩) 1 1] 42] rfl ?_
  refine hideK 3 (fun q1 k1 => ?_)
  refine callV _ (fun w' hm => lists_spec w' (hs2.mono (encS_mono (encF_mono _) _) (hm 2 _ rfl)) (ex_rows3 (hm 9 _ rfl) (hm 10 _ rfl) (hm 11 _ rfl) (hm 12 _ rfl)) (by rw [e1] at l2; simp at l2; omega) (by rw [e1]; decide)) ?_
  refine k1 _ _ ?_
  refine hideK 2 (fun q1 k1 => ?_)
  refine dtrue e1 ?_
  intro b53
  refine k1 _ _ ?_
  refine normS [.hp (Hp.whole w), .hp h1, .hp h2, .hp h3, .hp h4, .hp h5, .hp o6.h, .hp h7, .hp o8.h, .box b45 [.int .i64 0, .int .i64 1] 3, .box b46 [.int .i64 2] 3, .box b47 [.int .i64 3] 3, .box b48 [.slice (some ⟨b45, 0, none⟩) 2 2, .slice (some ⟨b46, 0, none⟩) 1 1, .slice (some ⟨b47, 0, none⟩) 1 1] 42, .box b53 [.int .i64 2] 3] rfl ?_
  refine hideK 1 (fun q1 k1 => ?_)
  intro b54
  refine k1 _ _ ?_
  refine normS [.hp (Hp.whole w), .hp h1, .hp h2, .hp h3, .hp h4, .hp h5, .hp o6.h, .hp h7, .hp o8.h, .box b45 [.int .i64 0, .int .i64 1] 3, .box b46 [.int .i64 2] 3, .box b47 [.int .i64 3] 3, .box b48 [.slice (some ⟨b45, 0, none⟩) 2 2, .slice (some ⟨b46, 0, none⟩) 1 1, .slice (some ⟨b47, 0, none⟩) 1 1] 42, .box b53 [.int .i64 2] 3, .box b54 [.slice (some ⟨b53, 0, none⟩) 1 1] 42] rfl ?_
  refine hideK 3 (fun q1 k1 => ?_)
  refine callV _ (fun w' hm => lists_spec w' (hs4.mono (encS_mono (encF_mono _) _) (hm 4 _ rfl)) (ex_rows1 (hm 13 _ rfl) (hm 14 _ rfl)) (by rw [e2] at l4; simp at l4; omega) (by rw [e2]; decide)) ?_
  refine k1 _ _ ?_
  refine hideK 5 (fun q1 k1 => ?_)
  refine dtrue e2 ?_
  intro b59
  refine callV _ (fun w' hm => equalInts_spec w' (hs6.mono (encF_mono _) (hm 6 _ rfl)) (Sl.box (f := fI) (fun _ => rfl) (by decide) (hm 15 _ rfl) [-1, 0, 1, -1] rfl rfl (by decide)) (by rw [e3] at l6; simp at l6; omega)) ?_
  refine k1 _ _ ?_
  refine hideK 5 (fun q1 k1 => ?_)
  refine dtrue e3 ?_
  intro b64
  refine callV _ (fun w' hm => equalInts_spec w' (hs8.mono (encF_mono _) (hm 8 _ rfl)) (Sl.box (f := fI) (fun _ => rfl) (by decide) (hm 16 _ rfl) [0, 1] rfl rfl (by decide)) (by rw [e4] at l8; simp at l8; omega)) ?_
  refine k1 _ _ ?_
  refine hq' _ _ ?_
  exact ⟨[], ⟨by rw [decide_eq_true e4], rfl⟩, fun w' h => h.pick [0] rfl rfl⟩
theorem known_spec (w : World) : CallsE Try.prog 14 #[] w (RetV w (.bool true)) :=
  known_aux w rfl rfl rfl rfl rfl (fun w h => comp_ex w h) (fun w h => sink_ex w h) (fun w h => tree_ex w h) (fun w h => cyc_ex w h)
end Go.Proofs.Ytdjhgcpmipglfaa
