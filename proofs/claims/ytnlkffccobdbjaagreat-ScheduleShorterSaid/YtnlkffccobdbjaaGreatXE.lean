/- Parts of one proof, joined: L1, L2, P1. No condition of its own. -/
import Derived.Test.YtnlkffccobdbjaaGreatXC
import Derived.Test.YtnlkffccobdbjaaGreatXB
import Derived.Test.YtnlkffccobdbjaaGreatXD
namespace Go.Proofs.YtnlkffccobdbjaaGreat
open Go Go.RowKit Go.Dw
def befF (a b : Int × Int) : Bool := decide (a.1 < b.1) || (decide (a.1 = b.1) && decide (a.2 < b.2))
def hasF (E : List (Int × Int)) (x y : Int) : Bool := E.any fun e => decide (e.1 = x) && decide (e.2 = y)
theorem hasF_iff {E : List (Int × Int)} {x y : Int} : hasF E x y = true ↔ (x, y) ∈ E := by
  simp only [hasF, List.any_eq_true, Bool.and_eq_true, decide_eq_true_eq]
  constructor
  · rintro ⟨⟨p, q⟩, h, rfl, rfl⟩; exact h
  · intro h; exact ⟨_, h, rfl, rfl⟩
end Go.Proofs.YtnlkffccobdbjaaGreat
namespace Go.Proofs.YtnlkffccobdbjaaGreat
open Go Go.RowKit Go.Dw
def rowK (E : List (Int × Int)) (a k : Nat) : List (Int × Int) := ((List.range k).filter fun b : Nat => hasF E a b).map fun b : Nat => ((a : Int), (b : Int))
def mkK (E : List (Int × Int)) (N a : Nat) : List (Int × Int) := (List.range a).flatMap fun i => rowK E i N
def mkF (N : Nat) (E : List (Int × Int)) : List (Int × Int) := mkK E N N
theorem rowK_len (E : List (Int × Int)) (a k : Nat) : (rowK E a k).length ≤ k := by
  unfold rowK; rw [List.length_map]
  exact Nat.le_trans (List.length_filter_le _ _) (by simp)
theorem rowK_succ (E : List (Int × Int)) (a k : Nat) : rowK E a (k + 1) = if hasF E a k then rowK E a k ++ [((a : Int), (k : Int))] else rowK E a k := by
  unfold rowK
  rw [List.range_succ, List.filter_append, List.map_append]
  by_cases h : hasF E a k <;> simp [h]
theorem mkK_succ (E : List (Int × Int)) (N a : Nat) : mkK E N (a + 1) = mkK E N a ++ rowK E a N := by
  unfold mkK; rw [List.range_succ, List.flatMap_append]; simp
theorem mkK_len (E : List (Int × Int)) (N : Nat) : ∀ a, (mkK E N a).length ≤ a * N
  | 0 => by simp [mkK]
  | a + 1 => by
    rw [mkK_succ, List.length_append, Nat.succ_mul]
    exact Nat.add_le_add (mkK_len E N a) (rowK_len E a N)
def rmkR (N : Int) (E : List (Int × Int)) : Int × List (Int × Int) × Int := if N < 0 ∨ N > 64 ∨ E.any (outF N) = true then (0, [], 2) else (N, mkF N.toNat E, 0)
theorem befF_iff (x y : Int × Int) : befF x y = true ↔ orderF x y < 0 := by
  unfold befF orderF cmpI
  simp only [Bool.or_eq_true, Bool.and_eq_true, decide_eq_true_eq]
  split <;> split <;> (try split) <;> (try split) <;> omega
end Go.Proofs.YtnlkffccobdbjaaGreat
namespace Go.Proofs.YtnlkffccobdbjaaGreat
open Go Go.RowKit Go.Dw
/-- the order of edges -/
def elt (a b : Int × Int) : Prop := a.1 < b.1 ∨ (a.1 = b.1 ∧ a.2 < b.2)
theorem elt_irrefl (a : Int × Int) : ¬ elt a a := by unfold elt; omega
theorem elt_trans {a b c : Int × Int} (h : elt a b) (k : elt b c) : elt a c := by unfold elt at *; omega
theorem elt_tri {a b : Int × Int} (h : ¬ elt a b) (k : ¬ elt b a) : a = b := by
  unfold elt at *
  exact Prod.ext (by omega) (by omega)
def Srt (L : List (Int × Int)) : Prop := L.Pairwise elt
theorem Srt.ext : ∀ {A B : List (Int × Int)}, Srt A → Srt B → (∀ x, x ∈ A ↔ x ∈ B) → A = B
  | [], [], _, _, _ => rfl
  | [], b :: B, _, _, h => by have := (h b).2 (by simp); simp at this
  | a :: A, [], _, _, h => by have := (h a).1 (by simp); simp at this
  | a :: A, b :: B, hA, hB, h => by
    have hA' := List.pairwise_cons.1 hA
    have hB' := List.pairwise_cons.1 hB
    have hab : a = b := by
      refine elt_tri (fun hlt => ?_) (fun hlt => ?_)
      · have := (h a).1 (by simp)
        rcases List.mem_cons.1 this with rfl | hm
        · exact elt_irrefl _ hlt
        · exact elt_irrefl _ (elt_trans hlt (hB'.1 a hm))
      · have := (h b).2 (by simp)
        rcases List.mem_cons.1 this with rfl | hm
        · exact elt_irrefl _ hlt
        · exact elt_irrefl _ (elt_trans hlt (hA'.1 b hm))
    subst hab
    rw [Srt.ext hA'.2 hB'.2 fun x => ?_]
    constructor
    · intro hx
      rcases List.mem_cons.1 ((h x).1 (by simp [hx])) with rfl | hm
      · exact absurd (hA'.1 _ hx) (elt_irrefl _)
      · exact hm
    · intro hx
      rcases List.mem_cons.1 ((h x).2 (by simp [hx])) with rfl | hm
      · exact absurd (hB'.1 _ hx) (elt_irrefl _)
      · exact hm
theorem dd_mem : ∀ {L : List (Int × Int)} {x : Int × Int}, x ∈ dd L ↔ x ∈ L
  | [], x => by simp [dd]
  | [y], x => by simp [dd]
  | y :: z :: r, x => by
    rw [dd]
    split
    · rename_i h; subst h
      rw [dd_mem (L := y :: r)]; simp
    · rw [List.mem_cons, dd_mem (L := z :: r)]; simp
theorem dd_srt : ∀ {L : List (Int × Int)}, L.Pairwise (fun a b => ¬ elt b a) → Srt (dd L)
  | [], _ => by simp [dd, Srt]
  | [y], _ => by simp [dd, Srt]
  | y :: z :: r, h => by
    have h' := List.pairwise_cons.1 h
    rw [dd]
    split
    · exact dd_srt h'.2
    · rename_i hne
      refine List.pairwise_cons.2 ⟨fun x hx => ?_, dd_srt h'.2⟩
      have hx' : x ∈ z :: r := dd_mem.1 hx
      have hyz : elt y z := Classical.byContradiction fun hn => hne (elt_tri hn (h'.1 z (by simp)))
      rcases List.mem_cons.1 hx' with rfl | hm
      · exact hyz
      · have := (List.pairwise_cons.1 h'.2).1 x hm
        refine Classical.byContradiction fun hn => ?_
        have hxy := h'.1 x hx'
        have e := elt_tri hn hxy
        subst e
        exact this hyz
theorem sortF_pw (L : List (Int × Int)) : (sortF L).Pairwise (fun a b => ¬ elt b a) := by
  have := List.pairwise_mergeSort (le := fun x y => !(ltOf orderF) y x) (fun a b c => by
    simp only [ltOf_order, Bool.not_eq_true', decide_eq_false_iff_not]; omega) (fun a b => by
    simp only [ltOf_order, Bool.or_eq_true, Bool.not_eq_true', decide_eq_false_iff_not]; omega) L
  refine List.Pairwise.imp (fun {a b} h => ?_) this
  simp only [ltOf_order, Bool.not_eq_true', decide_eq_false_iff_not] at h
  exact h
theorem srt_make (L : List (Int × Int)) : Srt (dd (sortF L)) := dd_srt (sortF_pw L)
theorem mkK_mem {E : List (Int × Int)} {N a : Nat} {x : Int × Int} : x ∈ mkK E N a ↔ x ∈ E ∧ 0 ≤ x.1 ∧ x.1 < a ∧ 0 ≤ x.2 ∧ x.2 < N := by
  unfold mkK rowK
  simp only [List.mem_flatMap, List.mem_range, List.mem_map, List.mem_filter, hasF_iff]
  constructor
  · rintro ⟨i, hi, j, ⟨hj, hm⟩, rfl⟩
    exact ⟨hm, by dsimp only; omega, by dsimp only; omega, by dsimp only; omega, by dsimp only; omega⟩
  · rintro ⟨hm, h1, h2, h3, h4⟩
    have e1 := Int.toNat_of_nonneg h1
    have e2 := Int.toNat_of_nonneg h3
    exact ⟨x.1.toNat, by omega, x.2.toNat, ⟨by omega, by rw [e1, e2]; exact hm⟩, by rw [e1, e2]⟩
theorem pw_range (k : Nat) : (List.range k).Pairwise (· < ·) := List.pairwise_lt_range
theorem rowK_srt (E : List (Int × Int)) (a k : Nat) : Srt (rowK E a k) := by
  unfold rowK Srt
  rw [List.pairwise_map]
  refine List.Pairwise.filter _ (List.Pairwise.imp (fun {x y} h => ?_) (pw_range k))
  unfold elt; dsimp only; omega
theorem mkK_srt (E : List (Int × Int)) (N : Nat) : ∀ a, Srt (mkK E N a)
  | 0 => by simp [mkK, Srt]
  | a + 1 => by
    rw [mkK_succ]
    refine List.pairwise_append.2 ⟨mkK_srt E N a, rowK_srt E a N, fun x hx y hy => ?_⟩
    have h1 := (mkK_mem.1 hx).2.2.1
    unfold rowK at hy
    obtain ⟨j, _, rfl⟩ := List.mem_map.1 hy
    unfold elt; dsimp only; omega
theorem mkF_srt (N : Nat) (E : List (Int × Int)) : Srt (mkF N E) := mkK_srt E N N
theorem mkF_mem {N : Nat} {E : List (Int × Int)} {x : Int × Int} : x ∈ mkF N E ↔ x ∈ E ∧ outF N x = false := by
  unfold mkF
  rw [mkK_mem]
  simp only [outF, beyondF, Bool.or_eq_false_iff, decide_eq_false_iff_not]
  constructor
  · rintro ⟨h, h1, h2, h3, h4⟩; exact ⟨h, ⟨by omega, by omega⟩, by omega, by omega⟩
  · rintro ⟨h, ⟨h1, h2⟩, h3, h4⟩; exact ⟨h, by omega, by omega, by omega, by omega⟩
theorem make_eq {N : Nat} {E : List (Int × Int)} (h : E.any (outF N) = false) : dd (sortF E) = mkF N E := by
  refine Srt.ext (srt_make E) (mkF_srt N E) fun x => ?_
  rw [dd_mem, sortF_mem, mkF_mem]
  refine ⟨fun hx => ⟨hx, ?_⟩, fun hx => hx.1⟩
  have := List.any_eq_false.1 h x hx
  simpa using this
theorem makeR_rmkR (N : Int) (E : List (Int × Int)) : makeR N E = rmkR N E := by
  unfold makeR rmkR
  by_cases h1 : N < 0 ∨ N > 64
  · rw [if_pos h1, if_pos (by rcases h1 with h | h; exact .inl h; exact .inr (.inl h))]
  · rw [if_neg h1]
    cases h2 : E.any (outF N) with
    | true => rw [if_pos rfl, if_pos (.inr (.inr rfl))]
    | false =>
      rw [if_neg Bool.false_ne_true, if_neg (by simp; omega)]
      obtain ⟨M, rfl⟩ : ∃ M : Nat, N = M := ⟨N.toNat, by omega⟩
      rw [make_eq h2]; rfl
theorem srt_sortedF : ∀ {L : List (Int × Int)}, Srt L → sortedF L = true := by
  intro L h
  unfold sortedF
  rw [List.all_eq_true]
  intro i hi
  have hi' : i + 1 < L.length := by have := List.mem_range.1 hi; omega
  rw [decide_eq_true_eq, order_lt]
  have e1 : L.getD i (0, 0) = L[i] := by simp [List.getD, show i < L.length by omega]
  have e2 : L.getD (i + 1) (0, 0) = L[i + 1] := by simp [List.getD, hi']
  rw [e1, e2]
  exact List.pairwise_iff_getElem.1 h i (i + 1) (by omega) hi' (by omega)
theorem make_check {N : Int} {E : List (Int × Int)} (h : (makeR N E).2.2 = 0) : checkF (makeR N E).1 (makeR N E).2.1 = 0 := by
  rw [makeR_rmkR] at *
  unfold rmkR at *
  split at h
  · cases h
  · rename_i hn
    rw [if_neg hn]
    dsimp only
    have hn1 : ¬ (N < 0 ∨ N > 64) := fun h => hn (by rcases h with h | h; exact .inl h; exact .inr (.inl h))
    obtain ⟨M, rfl⟩ : ∃ M : Nat, N = M := ⟨N.toNat, by omega⟩
    unfold checkF
    have hl : (mkF M E).length ≤ M * M := mkK_len E M M
    rw [Int.toNat_natCast, if_neg hn1, if_neg (by rw [← Int.natCast_mul]; omega), if_neg, srt_sortedF (mkF_srt M E), if_pos rfl]
    rw [Bool.not_eq_true, List.any_eq_false]
    intro x hx
    rw [(mkF_mem.1 hx).2]; exact Bool.false_ne_true
end Go.Proofs.YtnlkffccobdbjaaGreat
