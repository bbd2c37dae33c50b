/- Contracts of the reference's before, inside, Has, Check, Make. Their premises are their own. -/
import Derived.Test.YtdjhgcpmipglfaaG4
import Derived.Test.YtdjhgcpmipglfaaDwj
namespace Go.Proofs.Ytdjhgcpmipglfaa
open Go Go.RowKit Go.Dw
def befF (a b : Int × Int) : Bool := decide (a.1 < b.1) || (decide (a.1 = b.1) && decide (a.2 < b.2))
theorem before_spec (x y : Int × Int) (w : World) : CallsE Try.prog 102 #[.agg #[.int .i64 x.1, .int .i64 x.2], .agg #[.int .i64 y.1, .int .i64 y.2]] w (RetV w (.bool (befF x y))) := by
  refine enter (X := cx 24) (cxg _) (args := [.agg #[.int .i64 x.1, .int .i64 x.2], .agg #[.int .i64 y.1, .int .i64 y.2]]) [.tmp 4] Try.func102 rfl rfl rfl rfl rfl ?_
  intro b1 b2
  refine bsplitd (fun h => ?_) (fun h => ?_)
  · exact ⟨[], ⟨by simp [befF, h], rfl⟩, fun w' h => h.pick [0] rfl rfl⟩
  refine bsplitd (fun h2 => ?_) (fun h2 => ?_)
  · exact ⟨[], ⟨by simp [befF, h2], rfl⟩, fun w' h => h.pick [0] rfl rfl⟩
  · exact ⟨[], ⟨by simp [befF, h, h2], rfl⟩, fun w' h => h.pick [0] rfl rfl⟩
theorem inside_spec {a : Option Addr} {n c : Nat} {E : List (Int × Int)} (N : Int) (w : World) (hL : Sl (encF fE) 2 (Hp.whole w) a n c E) (hn : n < 1000000000000) :
    CallsE Try.prog 74 #[.int .i64 N, .slice a n c] w (RetV w (.bool (!E.any (outF N)))) := by
  have hlen := hL.len
  refine enter (X := cx 34) (cxg _) (args := [.int .i64 N, .slice a n c]) [.tmp 4] Try.func74 rfl rfl rfl rfl rfl ?_
  refine NeedL.mk Nat (fun k => [(0, .v (.int .i64 N)), (1, .v (.slice a n c)), (5, .v (.int .i64 k))]) (fun _ => [.hp (Hp.whole w)])
    (fun k => k ≤ n ∧ (E.take k).any (outF N) = false) (fun k => n - k) 0 ⟨Nat.zero_le _, rfl⟩ (Ent.mk (fun _ _ h => h) rfl rfl) ?_
  rintro k ⟨hk, ho⟩
  refine bsplitd (fun hlt => ?_) (fun hge => ?_)
  · have hlt' : k < E.length := by omega
    refine NeedL.mk Nat (fun j => [(0, .v (.int .i64 N)), (1, .v (.slice a n c)), (5, .v (.int .i64 k)), (6, .v (.int .i64 j))]) (fun _ => [.hp (Hp.whole w)])
      (fun j => j ≤ 2 ∧ (0 < j → beyondF N E[k].1 = false) ∧ (1 < j → beyondF N E[k].2 = false)) (fun j => 2 - j) 0 ⟨by omega, by omega, by omega⟩ (Ent.mk (fun _ _ h => h) rfl rfl) ?_
    rintro j ⟨hj, hj0, hj1⟩
    refine bsplitd (fun hl2 => ?_) (fun hg2 => ?_)
    · obtain rfl | rfl : j = 0 ∨ j = 1 := by omega
      · refine idx (cxg _) (e := 85) rfl hL k rfl hlt' (fun b o cs hcs hR hcell => ?_)
        subst hR
        refine idxA (cxg _) rfl rfl rfl 0 rfl rfl ?_
        refine ld1 (cxg _) (i := 0) rfl (hcell 0 _ rfl) rfl ?_
        refine bsplitd (fun h => ?_) (fun h => ?_)
        · exact ⟨[], ⟨by rw [any_hit hlt' (by simp [outF, beyondF, h])]; rfl, rfl⟩, fun w' h => h⟩
        refine idx (cxg _) (e := 85) rfl hL k rfl hlt' (fun b o cs hcs hR hcell => ?_)
        subst hR
        refine idxA (cxg _) rfl rfl rfl 0 rfl rfl ?_
        refine ld1 (cxg _) (i := 0) rfl (hcell 0 _ rfl) rfl ?_
        refine bsplitd (fun h2 => ?_) (fun h2 => ?_)
        · exact ⟨[], ⟨by rw [any_hit hlt' (by simp [outF, beyondF, h2])]; rfl, rfl⟩, fun w' h => h⟩
        refine nw (by omega) (by omega) ?_
        exact ⟨1, ⟨by omega, fun _ => by simp [beyondF]; omega, by omega⟩, by omega, Ent.mk (fun _ _ h => h) rfl rfl⟩
      · have h10 := hj0 (by omega)
        refine idx (cxg _) (e := 85) rfl hL k rfl hlt' (fun b o cs hcs hR hcell => ?_)
        subst hR
        refine idxA (cxg _) rfl rfl rfl 1 rfl rfl ?_
        refine ld1 (cxg _) (i := 0) rfl (hcell 1 _ rfl) rfl ?_
        refine bsplitd (fun h => ?_) (fun h => ?_)
        · exact ⟨[], ⟨by rw [any_hit hlt' (by simp [outF, beyondF, h])]; rfl, rfl⟩, fun w' h => h⟩
        refine idx (cxg _) (e := 85) rfl hL k rfl hlt' (fun b o cs hcs hR hcell => ?_)
        subst hR
        refine idxA (cxg _) rfl rfl rfl 1 rfl rfl ?_
        refine ld1 (cxg _) (i := 0) rfl (hcell 1 _ rfl) rfl ?_
        refine bsplitd (fun h2 => ?_) (fun h2 => ?_)
        · exact ⟨[], ⟨by rw [any_hit hlt' (by simp [outF, beyondF, h2])]; rfl, rfl⟩, fun w' h => h⟩
        refine nw (by omega) (by omega) ?_
        exact ⟨2, ⟨by omega, fun _ => h10, fun _ => by simp [beyondF]; omega⟩, by omega, Ent.mk (fun _ _ h => h) rfl rfl⟩
    · refine nw (by omega) (by omega) ?_
      exact ⟨k + 1, ⟨by omega, any_step hlt' ho (by simp [outF, hj0 (by omega), hj1 (by omega)])⟩, by omega, Ent.mk (fun _ _ h => h) rfl rfl⟩
  · rw [List.take_of_length_le (by omega)] at ho
    exact ⟨[], ⟨by rw [ho]; rfl, rfl⟩, fun w' h => h⟩
def hasF (E : List (Int × Int)) (x y : Int) : Bool := E.any fun e => decide (e.1 = x) && decide (e.2 = y)
theorem hasF_iff {E : List (Int × Int)} {x y : Int} : hasF E x y = true ↔ (x, y) ∈ E := by
  simp only [hasF, List.any_eq_true, Bool.and_eq_true, decide_eq_true_eq]
  constructor
  · rintro ⟨⟨p, q⟩, h, rfl, rfl⟩; exact h
  · intro h; exact ⟨_, h, rfl, rfl⟩
theorem Has_spec {a : Option Addr} {n c : Nat} {E : List (Int × Int)} (N x y : Int) (w : World) (hL : Sl (encF fE) 2 (Hp.whole w) a n c E) (hn : n < 1000000000000) :
    CallsE Try.prog 75 #[gv N a n c, .int .i64 x, .int .i64 y] w (RetV w (.bool (hasF E x y))) := by
  have hlen := hL.len
  refine enter (X := cx 33) (cxg _) (args := [.agg #[.int .i64 N, .slice a n c], .int .i64 x, .int .i64 y]) [.tmp 6] Try.func75 rfl rfl rfl rfl rfl ?_
  intro b1
  refine NeedL.mk Nat (fun k => [(1, .v (.int .i64 x)), (2, .v (.int .i64 y)), (3, .bx 1 0), (7, .v (.int .i64 k))]) (fun _ => [.hp (Hp.whole w), .box b1 [.int .i64 N, .slice a n c] 35])
    (fun k => k ≤ n ∧ ((E.take k).any fun e => decide (e.1 = x) && decide (e.2 = y)) = false) (fun k => n - k) 0 ⟨Nat.zero_le _, rfl⟩ (Ent.mk (fun _ _ h => h) rfl rfl) ?_
  rintro k ⟨hk, ho⟩
  refine bsplitd (fun hlt => ?_) (fun hge => ?_)
  · have hlt' : k < E.length := by omega
    refine idx (cxg _) (e := 85) rfl hL k rfl hlt' (fun b o cs hcs hR hcell => ?_)
    subst hR
    refine idxA (cxg _) rfl rfl rfl 0 rfl rfl ?_
    refine ld1 (cxg _) (i := 0) rfl (hcell 0 _ rfl) rfl ?_
    refine bsplitd (fun h => ?_) (fun h => ?_)
    · refine idx (cxg _) (e := 85) rfl hL k rfl hlt' (fun b o cs hcs hR hcell => ?_)
      subst hR
      refine idxA (cxg _) rfl rfl rfl 1 rfl rfl ?_
      refine ld1 (cxg _) (i := 0) rfl (hcell 1 _ rfl) rfl ?_
      refine bsplitd (fun h2 => ?_) (fun h2 => ?_)
      · exact ⟨[], ⟨by rw [hasF, any_hit hlt' (by simp [h, h2])], rfl⟩, fun w' h => h.pick [0] rfl rfl⟩
      · refine nw (by omega) (by omega) ?_
        exact ⟨k + 1, ⟨by omega, any_step hlt' ho (by simp [h2])⟩, by omega, Ent.mk (fun _ _ h => h) rfl rfl⟩
    · refine nw (by omega) (by omega) ?_
      exact ⟨k + 1, ⟨by omega, any_step hlt' ho (by simp [h])⟩, by omega, Ent.mk (fun _ _ h => h) rfl rfl⟩
  · rw [List.take_of_length_le (by omega)] at ho
    exact ⟨[], ⟨by rw [hasF, ho], rfl⟩, fun w' h => h.pick [0] rfl rfl⟩
end Go.Proofs.Ytdjhgcpmipglfaa
