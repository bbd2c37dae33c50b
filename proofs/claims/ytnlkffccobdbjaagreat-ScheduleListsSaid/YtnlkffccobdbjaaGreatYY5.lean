/- The plain law of the error of List: it is none exactly for an order that has each task once. -/
import Derived.Test.YtnlkffccobdbjaaGreatYY4
import Derived.Test.YtnlkffccobdbjaaGreatYX2
namespace Go.Proofs.YtnlkffccobdbjaaGreat
open Go Go.RowKit Go.Dw
theorem sorted_perm : ∀ {A B : List Int}, A.Perm B → A.Pairwise (fun a b => a ≤ b) → B.Pairwise (fun a b => a ≤ b) → A = B
  | [], B, h, _, _ => by rw [List.nil_perm.1 h]
  | a :: A, [], h, _, _ => by have := h.length_eq; simp at this
  | a :: A, b :: B, h, ha, hb => by
    rw [List.pairwise_cons] at ha hb
    have h1 : b ≤ a := by
      rcases List.mem_cons.1 (h.mem_iff.1 (List.mem_cons_self (a := a))) with e | e
      · omega
      · exact hb.1 a e
    have h2 : a ≤ b := by
      rcases List.mem_cons.1 (h.mem_iff.2 (List.mem_cons_self (a := b))) with e | e
      · omega
      · exact ha.1 b e
    obtain rfl : a = b := by omega
    rw [sorted_perm h.cons_inv ha.2 hb.2]
abbrev srI (L : List Int) : List Int := srtI (fun a b : Int => decide (a < b)) L
theorem srI_srt (L : List Int) : (srI L).Pairwise (fun a b => a ≤ b) := srtI_sorted (key := fun x : Int => x) (fun x y => by rw [decide_eq_decide]) L
theorem nat_srt (N : Nat) : (natL (List.range N)).Pairwise (fun a b : Int => a ≤ b) := by
  unfold natL
  rw [List.pairwise_map]
  exact List.Pairwise.imp (fun {a b} h => by omega) List.pairwise_lt_range
theorem srI_nat {L : List Int} {N : Nat} (h : L.Perm (natL (List.range N))) : srI L = natL (List.range N) := sorted_perm ((srtI_perm _ L).trans h) (srI_srt L) (nat_srt N)
theorem nat_get {N i : Nat} (hi : i < N) : (natL (List.range N)).getD i 0 = (i : Int) := by
  rw [gD (by unfold natL; simp; exact hi)]
  simp [natL]
theorem lisE_perm {TT : List Tk} {SS : List Sn} {order : List Int} (hE : shopE TT SS = 0) (h : order.Perm (natL (List.range TT.length))) : lisE TT SS order = 0 := by
  have hl : order.length = TT.length := by rw [h.length_eq]; simp [natL]
  unfold lisE
  rw [if_neg (fun g => g hE), if_pos]
  rw [Bool.and_eq_true, decide_eq_true_eq, List.all_eq_true]
  refine ⟨fun i hi => decide_eq_true ?_, hl⟩
  rw [show srtI (fun a b : Int => decide (a < b)) order = natL (List.range TT.length) from srI_nat h, nat_get (by rw [← hl]; exact List.mem_range.1 hi)]
theorem lisR_perm {TT : List Tk} {SS : List Sn} {order : List Int} (hE : shopE TT SS = 0) (h : order.Perm (natL (List.range TT.length))) : lisR TT SS order = (lisK TT SS order order.length).1 := by
  unfold lisR; rw [if_pos (lisE_perm hE h)]
/-- each number of the sorted order is its place, and there are as many as tasks -/
def ordB (N : Nat) (order : List Int) : Prop := (∀ i, i < order.length → (srI order).getD i 0 = (i : Int)) ∧ order.length = N
theorem lisE_iff {TT : List Tk} {SS : List Sn} {order : List Int} (hE : shopE TT SS = 0) : (ordB TT.length order → lisE TT SS order = 0) ∧ (¬ ordB TT.length order → lisE TT SS order = 8) := by
  unfold lisE
  rw [if_neg (fun g => g hE)]
  refine ⟨fun h => ?_, fun h => ?_⟩
  · rw [if_pos]
    rw [Bool.and_eq_true, decide_eq_true_eq, List.all_eq_true]
    exact ⟨fun i hi => decide_eq_true (h.1 i (List.mem_range.1 hi)).symm, h.2⟩
  · rw [if_neg]
    rw [Bool.and_eq_true, decide_eq_true_eq, List.all_eq_true]
    exact fun g => h ⟨fun i hi => (of_decide_eq_true (g.1 i (List.mem_range.2 hi))).symm, g.2⟩
theorem ordB_ok {N : Nat} {order : List Int} (h : ordB N order) : OrdOk N order := by
  refine ord_perm ((srtI_perm (fun a b : Int => decide (a < b)) order).symm.trans (List.Perm.of_eq ?_))
  have hl : (srI order).length = order.length := srtI_len _ _
  apply List.ext_getElem
  · show (srI order).length = _
    rw [hl, h.2]; simp [natL]
  · intro i h1 h2
    have hi : i < order.length := by rw [← hl]; exact h1
    have e : (srI order)[i] = (srI order).getD i 0 := (gD h1).symm
    show (srI order)[i] = _
    rw [e, h.1 i hi]
    simp [natL]
end Go.Proofs.YtnlkffccobdbjaaGreat
