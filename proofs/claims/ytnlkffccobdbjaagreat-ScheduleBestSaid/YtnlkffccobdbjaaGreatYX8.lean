/- The plain law of the lower bound: it is the greatest bound that has a proof, and its proof proves just it. -/
import Derived.Test.YtnlkffccobdbjaaGreatYXh
namespace Go.Proofs.YtnlkffccobdbjaaGreat
open Go Go.RowKit Go.Dw
/-! ### bits -/
theorem bitsP_test (x k : Nat) : bitsP x k = x.testBit k := by
  unfold bitsP
  rw [Nat.and_one_is_mod, Nat.testBit, Nat.one_and_eq_mod_two]
  have : (x >>> k) % 2 = 0 ∨ (x >>> k) % 2 = 1 := by omega
  rcases this with h | h <;> rw [h] <;> rfl
theorem ex_bits (p : Nat → Bool) : ∀ N, ∃ A, A < 2 ^ N ∧ ∀ k, A.testBit k = (decide (k < N) && p k)
  | 0 => ⟨0, by decide, fun k => by simp⟩
  | N + 1 => by
    obtain ⟨A, h1, h2⟩ := ex_bits p N
    have h3 : A < 2 ^ (N + 1) := Nat.lt_of_lt_of_le h1 (Nat.pow_le_pow_right (by decide) (by omega))
    by_cases hp : p N = true
    · refine ⟨A ||| 2 ^ N, Nat.or_lt_two_pow h3 (Nat.pow_lt_pow_right (by decide) (by omega)), fun k => ?_⟩
      rw [Nat.testBit_or, h2, Nat.testBit_two_pow]
      by_cases hk : N = k
      · subst hk; rw [decide_eq_true rfl, decide_eq_true (Nat.lt_succ_self N), hp]; simp
      · rw [decide_eq_false hk, Bool.or_false]
        congr 1
        rw [Bool.eq_iff_iff, decide_eq_true_eq, decide_eq_true_eq]; omega
    · refine ⟨A, h3, fun k => ?_⟩
      rw [h2]
      by_cases hk : k = N
      · subst hk; simp [hp]
      · congr 1
        rw [Bool.eq_iff_iff, decide_eq_true_eq, decide_eq_true_eq]; omega
theorem rangeF {p q : Nat → Bool} {N M : Nat} (hN : N ≤ M) (h : ∀ k, k < M → q k = (decide (k < N) && p k)) : (List.range M).filter q = (List.range N).filter p := by
  obtain ⟨d, rfl⟩ : ∃ d, M = N + d := ⟨M - N, by omega⟩
  clear hN
  induction d with
  | zero =>
    apply List.filter_congr
    intro k hk
    have := List.mem_range.1 hk
    rw [h k this, decide_eq_true (show k < N by omega)]; rfl
  | succ d ih =>
    rw [show N + (d + 1) = (N + d) + 1 by omega, List.range_succ, List.filter_append, ih fun k hk => h k (by omega)]
    rw [List.filter_cons_of_neg (by rw [h _ (by omega), decide_eq_false (by omega)]; simp)]
    simp
/-- each set of indices has its bits -/
theorem bits_of (p : Nat → Bool) {N M : Nat} (h : N ≤ M) : ∃ A, A < 2 ^ N ∧ bitsI A M = natL ((List.range N).filter p) := by
  obtain ⟨A, h1, h2⟩ := ex_bits p N
  refine ⟨A, h1, ?_⟩
  unfold bitsI
  rw [rangeF (p := p) h fun k _ => by rw [bitsP_test, h2]]
theorem bits_short {B M K : Nat} (h : B < 2 ^ M) (hM : M ≤ K) : bitsI B K = bitsI B M := by
  unfold bitsI
  rw [rangeF (p := bitsP B) hM fun k _ => ?_]
  by_cases hk : k < M
  · rw [decide_eq_true hk]; rfl
  · rw [decide_eq_false hk, bitsP_test, Nat.testBit_lt_two_pow (Nat.lt_of_lt_of_le h (Nat.pow_le_pow_right (by decide) (by omega)))]; rfl
theorem natF_inc (p : Nat → Bool) (N : Nat) : (natL ((List.range N).filter p)).Pairwise (fun a b : Int => a < b) := by
  unfold natL
  rw [List.pairwise_map]
  exact List.Pairwise.imp (fun {a b} h => by omega) (List.Pairwise.filter _ List.pairwise_lt_range)
theorem inc_incF {l : List Int} (h : l.Pairwise (fun a b : Int => a < b)) : incF l = true := by
  unfold incF
  rw [anyNoR fun i hi => ?_]
  · rfl
  · unfold incP
    by_cases h0 : 0 < i
    · have := List.pairwise_iff_getElem.1 h (i - 1) i (by omega) hi (by omega)
      rw [gD hi, gD (show i - 1 < l.length by omega), decide_eq_false (show ¬ l[i] ≤ l[i - 1] by omega), Bool.and_false]
    · rw [decide_eq_false h0]; rfl
theorem natF_mem {p : Nat → Bool} {N : Nat} {x : Int} : x ∈ natL ((List.range N).filter p) ↔ ∃ k : Nat, x = k ∧ k < N ∧ p k = true := by
  unfold natL
  rw [List.mem_map]
  constructor
  · rintro ⟨k, hk, rfl⟩
    exact ⟨k, rfl, List.mem_range.1 (List.mem_filter.1 hk).1, (List.mem_filter.1 hk).2⟩
  · rintro ⟨k, rfl, h1, h2⟩
    exact ⟨k, List.mem_filter.2 ⟨List.mem_range.2 h1, h2⟩, rfl⟩
theorem byF_no {l : List Int} {n : Int} (h : ∀ x ∈ l, 0 ≤ x ∧ x < n) : byF l n = false := by
  unfold byF
  rw [List.any_eq_false]
  intro x hx
  have := h x hx
  rw [decide_eq_false (by omega), decide_eq_false (by omega)]; decide
/-! ### the chain -/
def lkF (TT : List Tk) : Int → List Int → Prop
  | _, [] => True
  | last, x :: r => (last < 0 ∨ last ∈ afA TT x.toNat) ∧ (0 ≤ x ∧ x < (TT.length : Int)) ∧ lkF TT x r
theorem sumD_from (TT : List Tk) : ∀ (l : List Int) (s : Int), l.foldl (fun s i => s + duA TT i.toNat) s = s + sumD TT l
  | [], s => by simp [sumD]
  | x :: l, s => by
    show l.foldl (fun s i => s + duA TT i.toNat) (s + duA TT x.toNat) = s + l.foldl (fun s i => s + duA TT i.toNat) (0 + duA TT x.toNat)
    rw [sumD_from TT l, sumD_from TT l]; omega
theorem sumD_cons (TT : List Tk) (x : Int) (l : List Int) : sumD TT (x :: l) = duA TT x.toNat + sumD TT l := by
  show l.foldl (fun s i => s + duA TT i.toNat) (0 + duA TT x.toNat) = _
  rw [sumD_from]; omega
theorem lk_rng {TT : List Tk} : ∀ {C : List Int} {last : Int}, lkF TT last C → ∀ x ∈ C, 0 ≤ x ∧ x < (TT.length : Int)
  | [], _, _ => nofun
  | y :: C, last, h => fun x hx => by
    rcases List.mem_cons.1 hx with rfl | hx
    · exact h.2.1
    · exact lk_rng h.2.2 x hx
theorem lk_step {TT : List Tk} : ∀ {C : List Int} {last : Int}, lkF TT last C → ∀ i, 0 < i → i < C.length → C.getD (i - 1) 0 ∈ afA TT (C.getD i 0).toNat
  | [], _, _ => fun i _ h => by cases h
  | y :: C, last, h => fun i h0 hi => by
    obtain ⟨k, rfl⟩ : ∃ k, i = k + 1 := ⟨i - 1, by omega⟩
    rw [List.length_cons] at hi
    show (y :: C).getD k 0 ∈ afA TT (C.getD k 0).toNat
    cases k with
    | zero =>
      cases C with
      | nil => simp at hi
      | cons z C =>
        rcases h.2.2.1 with g | g
        · have := h.2.1; omega
        · exact g
    | succ k => exact lk_step h.2.2 (k + 1) (by omega) (by omega)
theorem lk_chn {TT : List Tk} {C : List Int} {last : Int} (h : lkF TT last C) : (List.range C.length).any (chnP TT C) = false := anyNoR fun i hi => by
  unfold chnP
  by_cases h0 : 0 < i
  · rw [decide_eq_true (lk_step h i h0 hi)]; simp
  · rw [decide_eq_false h0]; rfl
theorem fnd_some {n : Nat} {p : Nat → Bool} (h : ∃ i, i < n ∧ p i = true) : ∃ i, (List.range n).find? p = some i ∧ i < n ∧ p i = true := by
  obtain ⟨i, hi, hp⟩ := h
  cases e : (List.range n).find? p with
  | none =>
    have := List.find?_eq_none.1 e i (List.mem_range.2 hi)
    exact absurd hp this
  | some j => exact ⟨j, rfl, List.mem_range.1 (List.mem_of_find?_eq_some e), List.find?_some e⟩
theorem crt_ok {TT : List Tk} (hF : Fit TT) (hO : TT.length ≤ (ordF TT).length) : ∀ (f : Nat) (last left : Int), left.toNat < f → 0 ≤ left →
    (left = 0 ∨ ∃ i, i < TT.length ∧ tlV TT i = left ∧ (last < 0 ∨ last ∈ afA TT i)) → lkF TT last (crtF TT (tailsF TT) f last left) ∧ sumD TT (crtF TT (tailsF TT) f last left) = left := by
  intro f
  induction f with
  | zero => intro _ _ h; omega
  | succ f ih =>
    intro last left hf h0 hw
    by_cases hz : left = 0
    · subst hz
      have e : crtF TT (tailsF TT) (f + 1) last 0 = [] := by
        show (match (List.range TT.length).find? (crtP TT (tailsF TT) last 0) with | some i => (i : Int) :: crtF TT (tailsF TT) f i (0 - (TT.getD i default).du) | none => []) = []
        rw [fnd_none fun j _ => by unfold crtP; rfl]
      rw [e]; exact ⟨trivial, rfl⟩
    · obtain ⟨i, hi, ht, hl⟩ := hw.resolve_left hz
      clear hw
      have hp : crtP TT (tailsF TT) last left i = true := by
        unfold crtP
        rw [Bool.and_eq_true, Bool.and_eq_true, Bool.or_eq_true, decide_eq_true_eq, decide_eq_true_eq, decide_eq_true_eq, decide_eq_true_eq]
        exact ⟨⟨by omega, ht⟩, hl⟩
      obtain ⟨j, e, hj, hpj⟩ := fnd_some ⟨i, hi, hp⟩
      have e2 : crtF TT (tailsF TT) (f + 1) last left = (j : Int) :: crtF TT (tailsF TT) f j (left - duA TT j) := by
        show (match (List.range TT.length).find? (crtP TT (tailsF TT) last left) with | some i => (i : Int) :: crtF TT (tailsF TT) f i (left - (TT.getD i default).du) | none => []) = _
        rw [e]; rfl
      unfold crtP at hpj
      rw [Bool.and_eq_true, Bool.and_eq_true, Bool.or_eq_true, decide_eq_true_eq, decide_eq_true_eq, decide_eq_true_eq, decide_eq_true_eq] at hpj
      obtain ⟨⟨_, ht2⟩, hl2⟩ := hpj
      have hd := hF.d hj
      have hm := tail_max hF hO hj
      rw [show tlV TT j = left from ht2] at hm
      have hm0 := hm.z
      have hlt : (left - duA TT j).toNat < f := by omega
      obtain ⟨r1, r2⟩ := ih j (left - duA TT j) hlt hm0 (by
        rcases hm.a with h | ⟨k, ⟨hk, hin⟩, h⟩
        · exact .inl h
        · exact .inr ⟨k, hk, h.symm, .inr ((inL_iff hF hk).1 hin)⟩)
      rw [e2]
      refine ⟨⟨hl2, ⟨by omega, by omega⟩, r1⟩, ?_⟩
      rw [sumD_cons, r2, Int.toNat_natCast]; omega
theorem mx_ge {L : List Int} : ∀ x ∈ L, x ≤ mxF L := by
  have key : ∀ (A : List Int) (x : Int), x ≤ A.foldl max x ∧ ∀ y ∈ A, y ≤ A.foldl max x := by
    intro A
    induction A with
    | nil => exact fun x => ⟨Int.le_refl _, nofun⟩
    | cons z A ih =>
      intro x
      obtain ⟨h1, h2⟩ := ih (max x z)
      refine ⟨by show x ≤ A.foldl max (max x z); omega, fun y hy => ?_⟩
      show y ≤ A.foldl max (max x z)
      rcases List.mem_cons.1 hy with rfl | hy
      · omega
      · exact h2 y hy
  cases L with
  | nil => exact nofun
  | cons z L =>
    intro x hx
    show x ≤ L.foldl max z
    rcases List.mem_cons.1 hx with rfl | hx
    · exact (key L x).1
    · exact (key L z).2 x hx
theorem mx_mem {L : List Int} (h : 0 < L.length) : mxF L ∈ L := by
  have key : ∀ (A : List Int) (x : Int), A.foldl max x = x ∨ A.foldl max x ∈ A := by
    intro A
    induction A with
    | nil => exact fun x => .inl rfl
    | cons z A ih =>
      intro x
      show A.foldl max (max x z) = x ∨ A.foldl max (max x z) ∈ z :: A
      rcases ih (max x z) with h | h
      · rcases Int.le_total x z with g | g
        · right; rw [h, show max x z = z by omega]; simp
        · left; rw [h]; omega
      · right; exact List.mem_cons_of_mem _ h
  cases L with
  | nil => cases h
  | cons z L =>
    show L.foldl max z ∈ z :: L
    rcases key L z with h | h
    · rw [h]; simp
    · exact List.mem_cons_of_mem _ h
end Go.Proofs.YtnlkffccobdbjaaGreat
