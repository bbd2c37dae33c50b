/- The plain law of an order that is drawn: each task once. -/
import Derived.Test.YtnlkffccobdbjaaGreatYX5
namespace Go.Proofs.YtnlkffccobdbjaaGreat
open Go Go.RowKit Go.Dw
/-- what is left, and what is drawn, behind m draws -/
def dwnK (O : List Int) (n : Nat) : Nat → List Int × List Int
  | 0 => (natL (List.range n), [])
  | m + 1 => ((dwnK O n m).1.eraseIdx (if m < O.length then (O.getD m 0).toNat % (dwnK O n m).1.length else 0), (dwnK O n m).2 ++ [(dwnK O n m).1.getD (if m < O.length then (O.getD m 0).toNat % (dwnK O n m).1.length else 0) 0])
def dwnI (O : List Int) (n m : Nat) : Nat := if m < O.length then (O.getD m 0).toNat % (dwnK O n m).1.length else 0
def dwnF (O : List Int) (n : Nat) : List Int := (dwnK O n n).2
theorem dwnK_succ (O : List Int) (n m : Nat) : dwnK O n (m + 1) = ((dwnK O n m).1.eraseIdx (dwnI O n m), (dwnK O n m).2 ++ [(dwnK O n m).1.getD (dwnI O n m) 0]) := rfl
theorem era_perm : ∀ (L : List Int) (k : Nat), k < L.length → (L.getD k 0 :: L.eraseIdx k).Perm L
  | [], _, h => by cases h
  | x :: r, 0, _ => List.Perm.refl _
  | x :: r, k + 1, h => by
    have ih := era_perm r k (by simpa using h)
    show (r.getD k 0 :: x :: r.eraseIdx k).Perm (x :: r)
    exact (List.Perm.swap x (r.getD k 0) (r.eraseIdx k)).trans (ih.cons x)
theorem dwnI_lt {O : List Int} {n m : Nat} (h : 0 < (dwnK O n m).1.length) : dwnI O n m < (dwnK O n m).1.length := by
  unfold dwnI
  split
  · exact Nat.mod_lt _ h
  · exact h
theorem of_perm (O : List Int) (n : Nat) : ∀ m, m ≤ n → ((dwnK O n m).2 ++ (dwnK O n m).1).Perm (natL (List.range n)) ∧ (dwnK O n m).1.length = n - m ∧ (dwnK O n m).2.length = m
  | 0, _ => ⟨List.Perm.refl _, by unfold dwnK natL; simp, rfl⟩
  | m + 1, h => by
    obtain ⟨h1, h2, h3⟩ := of_perm O n m (by omega)
    rw [dwnK_succ]
    have hk := dwnI_lt (O := O) (n := n) (m := m) (by omega)
    generalize dwnI O n m = k at hk ⊢
    generalize dwnK O n m = p at *
    obtain ⟨l, o⟩ := p
    dsimp only at *
    refine ⟨?_, by rw [List.length_eraseIdx_of_lt hk]; omega, by simp [h3]⟩
    rw [List.append_assoc]
    exact ((era_perm l k hk).append_left o).trans h1
theorem dwnF_perm (O : List Int) (n : Nat) : (dwnF O n).Perm (natL (List.range n)) := by
  obtain ⟨h1, h2, _⟩ := of_perm O n n (Nat.le_refl _)
  have : (dwnK O n n).1 = [] := List.eq_nil_of_length_eq_zero (by omega)
  rw [this, List.append_nil] at h1
  exact h1
theorem ord_perm {L : List Int} {n : Nat} (h : L.Perm (natL (List.range n))) : OrdOk n L := by
  refine ⟨by rw [h.length_eq]; unfold natL; simp, fun x hx => ?_, fun i hi => h.mem_iff.2 (List.mem_map.2 ⟨i, List.mem_range.2 hi, rfl⟩)⟩
  obtain ⟨k, hk, rfl⟩ := List.mem_map.1 (h.mem_iff.1 hx)
  have := List.mem_range.1 hk
  omega
theorem of_ord (O : List Int) (n : Nat) : OrdOk n (dwnF O n) := ord_perm (dwnF_perm O n)
end Go.Proofs.YtnlkffccobdbjaaGreat
