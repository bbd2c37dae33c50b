/- Parts of one proof, joined: Y4, Y5. No condition of its own. -/
import Derived.Test.YtnlkffccobdbjaaGreatYX5
import Derived.Test.YtnlkffccobdbjaaGreatYX2
namespace Go.Proofs.YtnlkffccobdbjaaGreat
open Go Go.RowKit Go.Dw
/-- what is left, and what is drawn, behind m draws -/
def dwnK (O : List Int) (n : Nat) : Nat → List Int × List Int
  | 0 => (natL (List.range n), [])
  | m + 1 => ((dwnK O n m).1.eraseIdx (if m < O.length then (O.getD m 0).toNat % (dwnK O n m).1.length else 0), (dwnK O n m).2 ++ [(dwnK O n m).1.getD (if m < O.length then (O.getD m 0).toNat % (dwnK O n m).1.length else 0) 0])
def dwnI (O : List Int) (n m : Nat) : Nat := if m < O.length then (O.getD m 0).toNat % (dwnK O n m).1.length else 0
def dwnF (O : List Int) (n : Nat) : List Int := (dwnK O n n).2
theorem dwnK_succ (O : List Int) (n m : Nat) : dwnK O n (m + 1) = ((dwnK O n m).1.eraseIdx (dwnI O n m), (dwnK O n m).2 ++ [(dwnK O n m).1.getD (dwnI O n m) 0]) := rfl
theorem era_perm : ∀ (L : List Int) (k : Nat), k < L.length → (L.getD k 0 :: L.eraseIdx k).Perm L
  | [], _, h => by cases h
  | x :: r, 0, _ => List.Perm.refl _
  | x :: r, k + 1, h => by
    have ih := era_perm r k (by simpa using h)
    show (r.getD k 0 :: x :: r.eraseIdx k).Perm (x :: r)
    exact (List.Perm.swap x (r.getD k 0) (r.eraseIdx k)).trans (ih.cons x)
theorem dwnI_lt {O : List Int} {n m : Nat} (h : 0 < (dwnK O n m).1.length) : dwnI O n m < (dwnK O n m).1.length := by
  unfold dwnI
  split
  · exact Nat.mod_lt _ h
  · exact h
theorem of_perm (O : List Int) (n : Nat) : ∀ m, m ≤ n → ((dwnK O n m).2 ++ (dwnK O n m).1).Perm (natL (List.range n)) ∧ (dwnK O n m).1.length = n - m ∧ (dwnK O n m).2.length = m
  | 0, _ => ⟨List.Perm.refl _, by unfold dwnK natL; simp, rfl⟩
  | m + 1, h => by
    obtain ⟨h1, h2, h3⟩ := of_perm O n m (by omega)
    rw [dwnK_succ]
    have hk := dwnI_lt (O := O) (n := n) (m := m) (by omega)
    generalize dwnI O n m = k at hk ⊢
    generalize dwnK O n m = p at *
    obtain ⟨l, o⟩ := p
    dsimp only at *
    refine ⟨?_, by rw [List.length_eraseIdx_of_lt hk]; omega, by simp [h3]⟩
    rw [List.append_assoc]
    exact ((era_perm l k hk).append_left o).trans h1
theorem dwnF_perm (O : List Int) (n : Nat) : (dwnF O n).Perm (natL (List.range n)) := by
  obtain ⟨h1, h2, _⟩ := of_perm O n n (Nat.le_refl _)
  have : (dwnK O n n).1 = [] := List.eq_nil_of_length_eq_zero (by omega)
  rw [this, List.append_nil] at h1
  exact h1
theorem ord_perm {L : List Int} {n : Nat} (h : L.Perm (natL (List.range n))) : OrdOk n L := by
  refine ⟨by rw [h.length_eq]; unfold natL; simp, fun x hx => ?_, fun i hi => h.mem_iff.2 (List.mem_map.2 ⟨i, List.mem_range.2 hi, rfl⟩)⟩
  obtain ⟨k, hk, rfl⟩ := List.mem_map.1 (h.mem_iff.1 hx)
  have := List.mem_range.1 hk
  omega
theorem of_ord (O : List Int) (n : Nat) : OrdOk n (dwnF O n) := ord_perm (dwnF_perm O n)
end Go.Proofs.YtnlkffccobdbjaaGreat
namespace Go.Proofs.YtnlkffccobdbjaaGreat
open Go Go.RowKit Go.Dw
theorem sorted_perm : ∀ {A B : List Int}, A.Perm B → A.Pairwise (fun a b => a ≤ b) → B.Pairwise (fun a b => a ≤ b) → A = B
  | [], B, h, _, _ => by rw [List.nil_perm.1 h]
  | a :: A, [], h, _, _ => by have := h.length_eq; simp at this
  | a :: A, b :: B, h, ha, hb => by
    rw [List.pairwise_cons] at ha hb
    have h1 : b ≤ a := by
      rcases List.mem_cons.1 (h.mem_iff.1 (List.mem_cons_self (a := a))) with e | e
      · omega
      · exact hb.1 a e
    have h2 : a ≤ b := by
      rcases List.mem_cons.1 (h.mem_iff.2 (List.mem_cons_self (a := b))) with e | e
      · omega
      · exact ha.1 b e
    obtain rfl : a = b := by omega
    rw [sorted_perm h.cons_inv ha.2 hb.2]
abbrev srI (L : List Int) : List Int := srtI (fun a b : Int => decide (a < b)) L
theorem srI_srt (L : List Int) : (srI L).Pairwise (fun a b => a ≤ b) := srtI_sorted (key := fun x : Int => x) (fun x y => by rw [decide_eq_decide]) L
theorem nat_srt (N : Nat) : (natL (List.range N)).Pairwise (fun a b : Int => a ≤ b) := by
  unfold natL
  rw [List.pairwise_map]
  exact List.Pairwise.imp (fun {a b} h => by omega) List.pairwise_lt_range
theorem srI_nat {L : List Int} {N : Nat} (h : L.Perm (natL (List.range N))) : srI L = natL (List.range N) := sorted_perm ((srtI_perm _ L).trans h) (srI_srt L) (nat_srt N)
theorem nat_get {N i : Nat} (hi : i < N) : (natL (List.range N)).getD i 0 = (i : Int) := by
  rw [gD (by unfold natL; simp; exact hi)]
  simp [natL]
theorem lisE_perm {TT : List Tk} {SS : List Sn} {order : List Int} (hE : shopE TT SS = 0) (h : order.Perm (natL (List.range TT.length))) : lisE TT SS order = 0 := by
  have hl : order.length = TT.length := by rw [h.length_eq]; simp [natL]
  unfold lisE
  rw [if_neg (fun g => g hE), if_pos]
  rw [Bool.and_eq_true, decide_eq_true_eq, List.all_eq_true]
  refine ⟨fun i hi => decide_eq_true ?_, hl⟩
  rw [show srtI (fun a b : Int => decide (a < b)) order = natL (List.range TT.length) from srI_nat h, nat_get (by rw [← hl]; exact List.mem_range.1 hi)]
theorem lisR_perm {TT : List Tk} {SS : List Sn} {order : List Int} (hE : shopE TT SS = 0) (h : order.Perm (natL (List.range TT.length))) : lisR TT SS order = (lisK TT SS order order.length).1 := by
  unfold lisR; rw [if_pos (lisE_perm hE h)]
/-- each number of the sorted order is its place, and there are as many as tasks -/
def ordB (N : Nat) (order : List Int) : Prop := (∀ i, i < order.length → (srI order).getD i 0 = (i : Int)) ∧ order.length = N
theorem lisE_iff {TT : List Tk} {SS : List Sn} {order : List Int} (hE : shopE TT SS = 0) : (ordB TT.length order → lisE TT SS order = 0) ∧ (¬ ordB TT.length order → lisE TT SS order = 8) := by
  unfold lisE
  rw [if_neg (fun g => g hE)]
  refine ⟨fun h => ?_, fun h => ?_⟩
  · rw [if_pos]
    rw [Bool.and_eq_true, decide_eq_true_eq, List.all_eq_true]
    exact ⟨fun i hi => decide_eq_true (h.1 i (List.mem_range.1 hi)).symm, h.2⟩
  · rw [if_neg]
    rw [Bool.and_eq_true, decide_eq_true_eq, List.all_eq_true]
    exact fun g => h ⟨fun i hi => (of_decide_eq_true (g.1 i (List.mem_range.2 hi))).symm, g.2⟩
theorem ordB_ok {N : Nat} {order : List Int} (h : ordB N order) : OrdOk N order := by
  refine ord_perm ((srtI_perm (fun a b : Int => decide (a < b)) order).symm.trans (List.Perm.of_eq ?_))
  have hl : (srI order).length = order.length := srtI_len _ _
  apply List.ext_getElem
  · show (srI order).length = _
    rw [hl, h.2]; simp [natL]
  · intro i h1 h2
    have hi : i < order.length := by rw [← hl]; exact h1
    have e : (srI order)[i] = (srI order).getD i 0 := (gD h1).symm
    show (srI order)[i] = _
    rw [e, h.1 i hi]
    simp [natL]
end Go.Proofs.YtnlkffccobdbjaaGreat
