/- Parts of one proof, joined: X8, X9, Y1. No condition of its own. -/
import Derived.Test.YtnlkffccobdbjaaGreatYXh
import Derived.Test.YtnlkffccobdbjaaGreatYX2
namespace Go.Proofs.YtnlkffccobdbjaaGreat
open Go Go.RowKit Go.Dw
/-! ### bits -/
theorem bitsP_test (x k : Nat) : bitsP x k = x.testBit k := by
  unfold bitsP
  rw [Nat.and_one_is_mod, Nat.testBit, Nat.one_and_eq_mod_two]
  have : (x >>> k) % 2 = 0 ∨ (x >>> k) % 2 = 1 := by omega
  rcases this with h | h <;> rw [h] <;> rfl
theorem ex_bits (p : Nat → Bool) : ∀ N, ∃ A, A < 2 ^ N ∧ ∀ k, A.testBit k = (decide (k < N) && p k)
  | 0 => ⟨0, by decide, fun k => by simp⟩
  | N + 1 => by
    obtain ⟨A, h1, h2⟩ := ex_bits p N
    have h3 : A < 2 ^ (N + 1) := Nat.lt_of_lt_of_le h1 (Nat.pow_le_pow_right (by decide) (by omega))
    by_cases hp : p N = true
    · refine ⟨A ||| 2 ^ N, Nat.or_lt_two_pow h3 (Nat.pow_lt_pow_right (by decide) (by omega)), fun k => ?_⟩
      rw [Nat.testBit_or, h2, Nat.testBit_two_pow]
      by_cases hk : N = k
      · subst hk; rw [decide_eq_true rfl, decide_eq_true (Nat.lt_succ_self N), hp]; simp
      · rw [decide_eq_false hk, Bool.or_false]
        congr 1
        rw [Bool.eq_iff_iff, decide_eq_true_eq, decide_eq_true_eq]; omega
    · refine ⟨A, h3, fun k => ?_⟩
      rw [h2]
      by_cases hk : k = N
      · subst hk; simp [hp]
      · congr 1
        rw [Bool.eq_iff_iff, decide_eq_true_eq, decide_eq_true_eq]; omega
theorem rangeF {p q : Nat → Bool} {N M : Nat} (hN : N ≤ M) (h : ∀ k, k < M → q k = (decide (k < N) && p k)) : (List.range M).filter q = (List.range N).filter p := by
  obtain ⟨d, rfl⟩ : ∃ d, M = N + d := ⟨M - N, by omega⟩
  clear hN
  induction d with
  | zero =>
    apply List.filter_congr
    intro k hk
    have := List.mem_range.1 hk
    rw [h k this, decide_eq_true (show k < N by omega)]; rfl
  | succ d ih =>
    rw [show N + (d + 1) = (N + d) + 1 by omega, List.range_succ, List.filter_append, ih fun k hk => h k (by omega)]
    rw [List.filter_cons_of_neg (by rw [h _ (by omega), decide_eq_false (by omega)]; simp)]
    simp
/-- each set of indices has its bits -/
theorem bits_of (p : Nat → Bool) {N M : Nat} (h : N ≤ M) : ∃ A, A < 2 ^ N ∧ bitsI A M = natL ((List.range N).filter p) := by
  obtain ⟨A, h1, h2⟩ := ex_bits p N
  refine ⟨A, h1, ?_⟩
  unfold bitsI
  rw [rangeF (p := p) h fun k _ => by rw [bitsP_test, h2]]
theorem bits_short {B M K : Nat} (h : B < 2 ^ M) (hM : M ≤ K) : bitsI B K = bitsI B M := by
  unfold bitsI
  rw [rangeF (p := bitsP B) hM fun k _ => ?_]
  by_cases hk : k < M
  · rw [decide_eq_true hk]; rfl
  · rw [decide_eq_false hk, bitsP_test, Nat.testBit_lt_two_pow (Nat.lt_of_lt_of_le h (Nat.pow_le_pow_right (by decide) (by omega)))]; rfl
theorem natF_inc (p : Nat → Bool) (N : Nat) : (natL ((List.range N).filter p)).Pairwise (fun a b : Int => a < b) := by
  unfold natL
  rw [List.pairwise_map]
  exact List.Pairwise.imp (fun {a b} h => by omega) (List.Pairwise.filter _ List.pairwise_lt_range)
theorem inc_incF {l : List Int} (h : l.Pairwise (fun a b : Int => a < b)) : incF l = true := by
  unfold incF
  rw [anyNoR fun i hi => ?_]
  · rfl
  · unfold incP
    by_cases h0 : 0 < i
    · have := List.pairwise_iff_getElem.1 h (i - 1) i (by omega) hi (by omega)
      rw [gD hi, gD (show i - 1 < l.length by omega), decide_eq_false (show ¬ l[i] ≤ l[i - 1] by omega), Bool.and_false]
    · rw [decide_eq_false h0]; rfl
theorem natF_mem {p : Nat → Bool} {N : Nat} {x : Int} : x ∈ natL ((List.range N).filter p) ↔ ∃ k : Nat, x = k ∧ k < N ∧ p k = true := by
  unfold natL
  rw [List.mem_map]
  constructor
  · rintro ⟨k, hk, rfl⟩
    exact ⟨k, rfl, List.mem_range.1 (List.mem_filter.1 hk).1, (List.mem_filter.1 hk).2⟩
  · rintro ⟨k, rfl, h1, h2⟩
    exact ⟨k, List.mem_filter.2 ⟨List.mem_range.2 h1, h2⟩, rfl⟩
theorem byF_no {l : List Int} {n : Int} (h : ∀ x ∈ l, 0 ≤ x ∧ x < n) : byF l n = false := by
  unfold byF
  rw [List.any_eq_false]
  intro x hx
  have := h x hx
  rw [decide_eq_false (by omega), decide_eq_false (by omega)]; decide
/-! ### the chain -/
def lkF (TT : List Tk) : Int → List Int → Prop
  | _, [] => True
  | last, x :: r => (last < 0 ∨ last ∈ afA TT x.toNat) ∧ (0 ≤ x ∧ x < (TT.length : Int)) ∧ lkF TT x r
theorem sumD_from (TT : List Tk) : ∀ (l : List Int) (s : Int), l.foldl (fun s i => s + duA TT i.toNat) s = s + sumD TT l
  | [], s => by simp [sumD]
  | x :: l, s => by
    show l.foldl (fun s i => s + duA TT i.toNat) (s + duA TT x.toNat) = s + l.foldl (fun s i => s + duA TT i.toNat) (0 + duA TT x.toNat)
    rw [sumD_from TT l, sumD_from TT l]; omega
theorem sumD_cons (TT : List Tk) (x : Int) (l : List Int) : sumD TT (x :: l) = duA TT x.toNat + sumD TT l := by
  show l.foldl (fun s i => s + duA TT i.toNat) (0 + duA TT x.toNat) = _
  rw [sumD_from]; omega
theorem lk_rng {TT : List Tk} : ∀ {C : List Int} {last : Int}, lkF TT last C → ∀ x ∈ C, 0 ≤ x ∧ x < (TT.length : Int)
  | [], _, _ => nofun
  | y :: C, last, h => fun x hx => by
    rcases List.mem_cons.1 hx with rfl | hx
    · exact h.2.1
    · exact lk_rng h.2.2 x hx
theorem lk_step {TT : List Tk} : ∀ {C : List Int} {last : Int}, lkF TT last C → ∀ i, 0 < i → i < C.length → C.getD (i - 1) 0 ∈ afA TT (C.getD i 0).toNat
  | [], _, _ => fun i _ h => by cases h
  | y :: C, last, h => fun i h0 hi => by
    obtain ⟨k, rfl⟩ : ∃ k, i = k + 1 := ⟨i - 1, by omega⟩
    rw [List.length_cons] at hi
    show (y :: C).getD k 0 ∈ afA TT (C.getD k 0).toNat
    cases k with
    | zero =>
      cases C with
      | nil => simp at hi
      | cons z C =>
        rcases h.2.2.1 with g | g
        · have := h.2.1; omega
        · exact g
    | succ k => exact lk_step h.2.2 (k + 1) (by omega) (by omega)
theorem lk_chn {TT : List Tk} {C : List Int} {last : Int} (h : lkF TT last C) : (List.range C.length).any (chnP TT C) = false := anyNoR fun i hi => by
  unfold chnP
  by_cases h0 : 0 < i
  · rw [decide_eq_true (lk_step h i h0 hi)]; simp
  · rw [decide_eq_false h0]; rfl
theorem fnd_some {n : Nat} {p : Nat → Bool} (h : ∃ i, i < n ∧ p i = true) : ∃ i, (List.range n).find? p = some i ∧ i < n ∧ p i = true := by
  obtain ⟨i, hi, hp⟩ := h
  cases e : (List.range n).find? p with
  | none =>
    have := List.find?_eq_none.1 e i (List.mem_range.2 hi)
    exact absurd hp this
  | some j => exact ⟨j, rfl, List.mem_range.1 (List.mem_of_find?_eq_some e), List.find?_some e⟩
theorem crt_ok {TT : List Tk} (hF : Fit TT) (hO : TT.length ≤ (ordF TT).length) : ∀ (f : Nat) (last left : Int), left.toNat < f → 0 ≤ left →
    (left = 0 ∨ ∃ i, i < TT.length ∧ tlV TT i = left ∧ (last < 0 ∨ last ∈ afA TT i)) → lkF TT last (crtF TT (tailsF TT) f last left) ∧ sumD TT (crtF TT (tailsF TT) f last left) = left := by
  intro f
  induction f with
  | zero => intro _ _ h; omega
  | succ f ih =>
    intro last left hf h0 hw
    by_cases hz : left = 0
    · subst hz
      have e : crtF TT (tailsF TT) (f + 1) last 0 = [] := by
        show (match (List.range TT.length).find? (crtP TT (tailsF TT) last 0) with | some i => (i : Int) :: crtF TT (tailsF TT) f i (0 - (TT.getD i default).du) | none => []) = []
        rw [fnd_none fun j _ => by unfold crtP; rfl]
      rw [e]; exact ⟨trivial, rfl⟩
    · obtain ⟨i, hi, ht, hl⟩ := hw.resolve_left hz
      clear hw
      have hp : crtP TT (tailsF TT) last left i = true := by
        unfold crtP
        rw [Bool.and_eq_true, Bool.and_eq_true, Bool.or_eq_true, decide_eq_true_eq, decide_eq_true_eq, decide_eq_true_eq, decide_eq_true_eq]
        exact ⟨⟨by omega, ht⟩, hl⟩
      obtain ⟨j, e, hj, hpj⟩ := fnd_some ⟨i, hi, hp⟩
      have e2 : crtF TT (tailsF TT) (f + 1) last left = (j : Int) :: crtF TT (tailsF TT) f j (left - duA TT j) := by
        show (match (List.range TT.length).find? (crtP TT (tailsF TT) last left) with | some i => (i : Int) :: crtF TT (tailsF TT) f i (left - (TT.getD i default).du) | none => []) = _
        rw [e]; rfl
      unfold crtP at hpj
      rw [Bool.and_eq_true, Bool.and_eq_true, Bool.or_eq_true, decide_eq_true_eq, decide_eq_true_eq, decide_eq_true_eq, decide_eq_true_eq] at hpj
      obtain ⟨⟨_, ht2⟩, hl2⟩ := hpj
      have hd := hF.d hj
      have hm := tail_max hF hO hj
      rw [show tlV TT j = left from ht2] at hm
      have hm0 := hm.z
      have hlt : (left - duA TT j).toNat < f := by omega
      obtain ⟨r1, r2⟩ := ih j (left - duA TT j) hlt hm0 (by
        rcases hm.a with h | ⟨k, ⟨hk, hin⟩, h⟩
        · exact .inl h
        · exact .inr ⟨k, hk, h.symm, .inr ((inL_iff hF hk).1 hin)⟩)
      rw [e2]
      refine ⟨⟨hl2, ⟨by omega, by omega⟩, r1⟩, ?_⟩
      rw [sumD_cons, r2, Int.toNat_natCast]; omega
theorem mx_ge {L : List Int} : ∀ x ∈ L, x ≤ mxF L := by
  have key : ∀ (A : List Int) (x : Int), x ≤ A.foldl max x ∧ ∀ y ∈ A, y ≤ A.foldl max x := by
    intro A
    induction A with
    | nil => exact fun x => ⟨Int.le_refl _, nofun⟩
    | cons z A ih =>
      intro x
      obtain ⟨h1, h2⟩ := ih (max x z)
      refine ⟨by show x ≤ A.foldl max (max x z); omega, fun y hy => ?_⟩
      show y ≤ A.foldl max (max x z)
      rcases List.mem_cons.1 hy with rfl | hy
      · omega
      · exact h2 y hy
  cases L with
  | nil => exact nofun
  | cons z L =>
    intro x hx
    show x ≤ L.foldl max z
    rcases List.mem_cons.1 hx with rfl | hx
    · exact (key L x).1
    · exact (key L z).2 x hx
theorem mx_mem {L : List Int} (h : 0 < L.length) : mxF L ∈ L := by
  have key : ∀ (A : List Int) (x : Int), A.foldl max x = x ∨ A.foldl max x ∈ A := by
    intro A
    induction A with
    | nil => exact fun x => .inl rfl
    | cons z A ih =>
      intro x
      show A.foldl max (max x z) = x ∨ A.foldl max (max x z) ∈ z :: A
      rcases ih (max x z) with h | h
      · rcases Int.le_total x z with g | g
        · right; rw [h, show max x z = z by omega]; simp
        · left; rw [h]; omega
      · right; exact List.mem_cons_of_mem _ h
  cases L with
  | nil => cases h
  | cons z L =>
    show L.foldl max z ∈ z :: L
    rcases key L z with h | h
    · rw [h]; simp
    · exact List.mem_cons_of_mem _ h
end Go.Proofs.YtnlkffccobdbjaaGreat
namespace Go.Proofs.YtnlkffccobdbjaaGreat
open Go Go.RowKit Go.Dw
theorem fold_up {β : Type} {f : Lx → β → Lx} (hf : ∀ x i, x.1 ≤ (f x i).1) : ∀ (l : List β) (x : Lx), x.1 ≤ (l.foldl f x).1
  | [], x => Int.le_refl _
  | i :: l, x => Int.le_trans (hf x i) (fold_up hf l (f x i))
theorem fold_uphit {β : Type} {f : Lx → β → Lx} {M : Int} (hf : ∀ x i, x.1 ≤ (f x i).1) {i : β} (h : ∀ x, M ≤ (f x i).1) : ∀ {l : List β} (x : Lx), i ∈ l → M ≤ (l.foldl f x).1
  | [], _, hi => by cases hi
  | j :: l, x, hi => by
    rcases List.mem_cons.1 hi with rfl | hi
    · exact Int.le_trans (h x) (fold_up hf l _)
    · exact fold_uphit hf h (f x j) hi
theorem fold_keep {β : Type} {f : Lx → β → Lx} {I : Lx → Prop} : ∀ {l : List β} {x : Lx}, (∀ i ∈ l, ∀ x, I x → I (f x i)) → I x → I (l.foldl f x)
  | [], _, _, h => h
  | i :: l, x, hf, h => fold_keep (l := l) (fun j hj => hf j (List.mem_cons_of_mem _ hj)) (hf i (by simp) x h)
theorem ddI_mem : ∀ {L : List Int} {x : Int}, x ∈ L → x ∈ ddI L
  | [], _, h => by cases h
  | [a], _, h => h
  | a :: b :: L, x, h => by
    have ih := fun y (hy : y ∈ b :: L) => ddI_mem (L := b :: L) hy
    unfold ddI
    split
    · rename_i e
      rcases List.mem_cons.1 h with rfl | h
      · exact ih _ (by first | simp [e] | simp [e.symm])
      · exact ih _ h
    · rcases List.mem_cons.1 h with rfl | h
      · simp
      · exact List.mem_cons_of_mem _ (ih _ h)
theorem dis_mem {L : List Int} {x : Int} (h : x ∈ L) : x ∈ disF L := ddI_mem ((srtI_perm _ L).mem_iff.2 h)
/-! ### least values -/
theorem minH_le (H : List Int) : ∀ (l : List Int) (x : Int), minH H x l ≤ x ∧ ∀ i ∈ l, minH H x l ≤ H.getD i.toNat 0
  | [], x => ⟨Int.le_refl _, nofun⟩
  | j :: l, x => by
    obtain ⟨h1, h2⟩ := minH_le H l (min x (H.getD j.toNat 0))
    have e : minH H x (j :: l) = minH H (min x (H.getD j.toNat 0)) l := rfl
    rw [e]
    refine ⟨by omega, fun i hi => ?_⟩
    rcases List.mem_cons.1 hi with rfl | hi
    · omega
    · exact h2 i hi
theorem minH_ge {H : List Int} {b : Int} : ∀ {l : List Int} {x : Int}, b ≤ x → (∀ i ∈ l, b ≤ H.getD i.toNat 0) → b ≤ minH H x l
  | [], _, h, _ => h
  | j :: l, x, h, hl => minH_ge (l := l) (x := min x (H.getD j.toNat 0)) (by have := hl j (by simp); omega) fun i hi => hl i (by simp [hi])
/-- the least of some -/
def minL (H l : List Int) : Int := minH H (H.getD (l.getD 0 0).toNat 0) l
theorem hd_mem {l : List Int} (h : 0 < l.length) : l.getD 0 0 ∈ l := by rw [gD h]; exact List.getElem_mem h
theorem minL_le {H l : List Int} {i : Int} (h : i ∈ l) : minL H l ≤ H.getD i.toNat 0 := (minH_le H l _).2 i h
theorem minL_ge {H l : List Int} {b : Int} (h0 : 0 < l.length) (h : ∀ i ∈ l, b ≤ H.getD i.toNat 0) : b ≤ minL H l := minH_ge (h _ (hd_mem h0)) h
theorem minH_at (H : List Int) : ∀ (l : List Int) (x : Int), minH H x l = x ∨ ∃ i ∈ l, minH H x l = H.getD i.toNat 0
  | [], x => .inl rfl
  | j :: l, x => by
    have e : minH H x (j :: l) = minH H (min x (H.getD j.toNat 0)) l := rfl
    rw [e]
    rcases minH_at H l (min x (H.getD j.toNat 0)) with h | ⟨i, hi, h⟩
    · rcases Int.le_total x (H.getD j.toNat 0) with g | g
      · left; rw [h]; omega
      · right; exact ⟨j, by simp, by rw [h]; omega⟩
    · right; exact ⟨i, by simp [hi], h⟩
theorem minL_at {H l : List Int} (h0 : 0 < l.length) : ∃ i ∈ l, minL H l = H.getD i.toNat 0 := by
  rcases minH_at H l (H.getD (l.getD 0 0).toNat 0) with h | h
  · exact ⟨_, hd_mem h0, h⟩
  · exact h
theorem sh_eq (TT : List Tk) (H R l : List Int) (st : Nat) : shF TT H R l st = minL H l + ((((sumD TT l).toNat + st - 1) / st : Nat) : Int) + minL R l := rfl
theorem sumD_app (TT : List Tk) (l m : List Int) : sumD TT (l ++ m) = sumD TT l + sumD TT m := by
  unfold sumD; rw [List.foldl_append, sumD_from]; rfl
theorem sumD_sub {TT : List Tk} (hF : Fit TT) {p q : Nat → Bool} (h : ∀ k, k < TT.length → p k = true → q k = true) : ∀ N, N ≤ TT.length → sumD TT (natL ((List.range N).filter p)) ≤ sumD TT (natL ((List.range N).filter q))
  | 0, _ => Int.le_refl _
  | N + 1, hN => by
    have ih := sumD_sub hF h N (by omega)
    have hd := hF.d (i := N) (by omega)
    have e : ∀ r : Nat → Bool, sumD TT (natL ((List.range (N + 1)).filter r)) = sumD TT (natL ((List.range N).filter r)) + if r N then duA TT N else 0 := fun r => by
      unfold natL
      rw [List.range_succ, List.filter_append, List.map_append, sumD_app]
      by_cases hr : r N = true
      · rw [if_pos hr, List.filter_cons_of_pos hr]; simp [sumD]
      · rw [if_neg hr, List.filter_cons_of_neg hr]; simp [sumD]
    rw [e p, e q]
    have := h N (by omega)
    split <;> split <;> (first | omega | (rename_i g1 g2; exact absurd (this g1) g2))
theorem sumD_nn {TT : List Tk} (hF : Fit TT) : ∀ {l : List Int}, (∀ x ∈ l, 0 ≤ x ∧ x < (TT.length : Int)) → 0 ≤ sumD TT l
  | [], _ => Int.le_refl _
  | x :: l, h => by
    rw [sumD_cons]
    have := hF.d (i := x.toNat) (by have := h x (by simp); omega)
    have := sumD_nn hF (l := l) fun y hy => h y (by simp [hy])
    omega
/-! ### the search -/
section
variable {TT : List Tk} {SS : List Sn}
/-- how a bound was found -/
def Wit (TT : List Tk) (SS : List Sn) (x : Lx) : Prop :=
  x = ((crtR TT SS).1, (crtR TT SS).2, [], []) ∨ ∃ s le af, s < 2 ^ SS.length - 1 ∧ onF TT SS (bitsI (s + 1) SS.length) (headF TT) (restF TT) le af ≠ [] ∧
    x = (shF TT (headF TT) (restF TT) (onF TT SS (bitsI (s + 1) SS.length) (headF TT) (restF TT) le af) (bitsI (s + 1) SS.length).length, [], onF TT SS (bitsI (s + 1) SS.length) (headF TT) (restF TT) le af, bitsI (s + 1) SS.length)
theorem loA_wit {s : Nat} {le af : Int} {x : Lx} (hs : s < 2 ^ SS.length - 1) (h : Wit TT SS x) : Wit TT SS (loA TT SS (headF TT) (restF TT) (bitsI (s + 1) SS.length) le x af) := by
  unfold loA
  split
  · exact h
  · rename_i hn
    split
    · exact .inr ⟨s, le, af, hs, hn, rfl⟩
    · exact h
theorem loA_up {H R B : List Int} {le : Int} (x : Lx) (af : Int) : x.1 ≤ (loA TT SS H R B le x af).1 := by
  unfold loA
  split
  · exact Int.le_refl _
  · split
    · dsimp only; omega
    · exact Int.le_refl _
theorem loA_hit {H R B : List Int} {le af : Int} (h : onF TT SS B H R le af ≠ []) (x : Lx) : shF TT H R (onF TT SS B H R le af) B.length ≤ (loA TT SS H R B le x af).1 := by
  unfold loA
  rw [if_neg h]
  split
  · exact Int.le_refl _
  · omega
theorem low_wit : Wit TT SS (lowF TT SS) := by
  unfold lowF
  refine fold_keep (fun s hs x h => ?_) (.inl rfl)
  refine fold_keep (fun le _ x h => ?_) h
  refine fold_keep (fun af _ x h => ?_) h
  exact loA_wit (List.mem_range.1 hs) h
theorem low_hit {s : Nat} {le af : Int} (hs : s < 2 ^ SS.length - 1) (hl : le ∈ disF (headF TT)) (ha : af ∈ disF (restF TT)) (h : onF TT SS (bitsI (s + 1) SS.length) (headF TT) (restF TT) le af ≠ []) :
    shF TT (headF TT) (restF TT) (onF TT SS (bitsI (s + 1) SS.length) (headF TT) (restF TT) le af) (bitsI (s + 1) SS.length).length ≤ (lowF TT SS).1 := by
  unfold lowF
  have u1 : ∀ B le (x : Lx) (af : Int), x.1 ≤ (loA TT SS (headF TT) (restF TT) B le x af).1 := fun B le x af => loA_up x af
  have u2 : ∀ B (x : Lx) (le : Int), x.1 ≤ (loL TT SS (headF TT) (restF TT) B x le).1 := fun B x le => fold_up (u1 B le) _ x
  have u3 : ∀ (x : Lx) (s : Nat), x.1 ≤ (loS TT SS (headF TT) (restF TT) x s).1 := fun x s => fold_up (u2 _) _ x
  refine fold_uphit u3 (fun x => ?_) _ (List.mem_range.2 hs)
  refine fold_uphit (u2 _) (fun x => ?_) x hl
  exact fold_uphit (u1 _ _) (fun x => loA_hit h x) x ha
theorem low_crt : (crtR TT SS).1 ≤ (lowF TT SS).1 := by
  unfold lowF
  have u1 : ∀ B le (x : Lx) (af : Int), x.1 ≤ (loA TT SS (headF TT) (restF TT) B le x af).1 := fun B le x af => loA_up x af
  have u2 : ∀ B (x : Lx) (le : Int), x.1 ≤ (loL TT SS (headF TT) (restF TT) B x le).1 := fun B x le => fold_up (u1 B le) _ x
  exact fold_up (fun x s => fold_up (u2 _) _ x) (List.range (2 ^ SS.length - 1)) ((crtR TT SS).1, (crtR TT SS).2, [], [])
theorem tlV_mem (hF : Fit TT) {i : Nat} (hi : i < TT.length) : tlV TT i ∈ tailsF TT := by
  have hl := tails_len hF
  unfold tlV
  rw [gD (by omega)]; exact List.getElem_mem _
theorem crt_max (hF : Fit TT) (hE : shopE TT SS = 0) : 0 ≤ (crtR TT SS).1 ∧ (∀ i, i < TT.length → tlV TT i ≤ (crtR TT SS).1) ∧ ((crtR TT SS).1 = 0 ∨ ∃ i, i < TT.length ∧ (crtR TT SS).1 = tlV TT i) := by
  have hl := tails_len hF
  unfold crtR
  by_cases h0 : 0 < TT.length
  · rw [if_pos ⟨hE, h0⟩]
    have hm := mx_mem (L := tailsF TT) (by omega)
    obtain ⟨i, hi, e⟩ := List.mem_iff_getElem.1 hm
    have e2 : tlV TT i = (tailsF TT)[i] := gD hi
    refine ⟨?_, fun i hi => mx_ge _ (tlV_mem hF hi), .inr ⟨i, by omega, by dsimp only; rw [e2, e]⟩⟩
    dsimp only
    rw [← e, ← e2]; exact (tlv_rng hF (by omega)).1
  · rw [if_neg (fun h => h0 h.2)]
    exact ⟨Int.le_refl _, fun i hi => by omega, .inl rfl⟩
theorem crt_chain (hF : Fit TT) (hE : shopE TT SS = 0) : lkF TT (-1) (crtR TT SS).2 ∧ sumD TT (crtR TT SS).2 = (crtR TT SS).1 := by
  have hO := (shop_ok hE).2.2.2.1
  obtain ⟨h1, h2, h3⟩ := crt_max hF hE
  by_cases h0 : 0 < TT.length
  · have e : crtR TT SS = (mxF (tailsF TT), crtF TT (tailsF TT) ((mxF (tailsF TT)).toNat + 1) (-1) (mxF (tailsF TT))) := by unfold crtR; rw [if_pos ⟨hE, h0⟩]
    rw [e] at h1 h3 ⊢
    dsimp only at *
    refine crt_ok hF hO _ _ _ (by omega) h1 ?_
    rcases h3 with h | ⟨i, hi, h⟩
    · exact .inl h
    · exact .inr ⟨i, hi, h.symm, .inl (by decide)⟩
  · have e : crtR TT SS = (0, []) := by unfold crtR; rw [if_neg (fun h => h0 h.2)]
    rw [e]; exact ⟨trivial, rfl⟩
theorem onP_oth {B H R : List Int} {le af : Int} {k : Nat} (h : onP TT SS B H R le af k = true) : le ≤ H.getD k 0 ∧ af ≤ R.getD k 0 ∧ (List.range SS.length).any (othP TT SS B k) = false := by
  unfold onP at h
  rw [Bool.and_eq_true, Bool.and_eq_true] at h
  obtain ⟨h1, h2, h3⟩ := h
  refine ⟨?_, ?_, by simpa using h3⟩
  · have : ¬ H.getD k 0 < le := by simpa using h1
    omega
  · have : ¬ R.getD k 0 < af := by simpa using h2
    omega
theorem on_eq (B H R : List Int) (le af : Int) : onF TT SS B H R le af = natL ((List.range TT.length).filter (onP TT SS B H R le af)) := rfl
theorem wit_prv (hF : Fit TT) (hE : shopE TT SS = 0) {x : Lx} (h : Wit TT SS x) : prvF TT SS x.2.1 x.2.2.1 x.2.2.2 = (x.1, true) := by
  rcases h with rfl | ⟨s, le, af, hs, hn, rfl⟩
  · obtain ⟨h1, h2⟩ := crt_chain hF hE
    dsimp only
    unfold prvF
    rw [lk_chn h1, if_neg (by decide), if_pos (.inr rfl), h2]
  · dsimp only
    have hB : 0 < (bitsI (s + 1) SS.length).length := bitsI_pos (by omega) (by omega)
    have hT : 0 < (onF TT SS (bitsI (s + 1) SS.length) (headF TT) (restF TT) le af).length := List.length_pos_iff.2 hn
    unfold prvF
    rw [if_neg (fun h => by cases h), if_neg (fun h => h.elim (fun h => by cases h) fun h => by omega), if_neg (by omega), if_neg]
    intro h
    unfold othA at h
    obtain ⟨x, hx, h2⟩ := List.any_eq_true.1 h
    rw [on_eq] at hx
    obtain ⟨k, rfl, hk, hp⟩ := natF_mem.1 hx
    rw [Int.toNat_natCast, (onP_oth hp).2.2] at h2
    cases h2
theorem set_le (hF : Fit TT) (hN : TT.length ≤ 16) (hM : SS.length ≤ 16) {A B : Nat} (hA : A < 2 ^ TT.length) (hB : B < 2 ^ SS.length) (h0 : 0 < A) (h2 : (setP TT SS A B).2 = true) : (setP TT SS A B).1 ≤ (lowF TT SS).1 := by
  have e1 : bitsI A 16 = natL ((List.range TT.length).filter (bitsP A)) := bits_short hA hN
  have e2 : bitsI B 16 = bitsI B SS.length := bits_short hB hM
  have hTl : 0 < (bitsI A 16).length := bitsI_pos h0 (Nat.lt_of_lt_of_le hA (Nat.pow_le_pow_right (by decide) hN))
  have hsp : setP TT SS A B = prvF TT SS [] (bitsI A 16) (bitsI B 16) := rfl
  obtain ⟨T, hT⟩ : ∃ T, T = bitsI A 16 := ⟨_, rfl⟩
  obtain ⟨S, hS⟩ : ∃ S, S = bitsI B 16 := ⟨_, rfl⟩
  rw [← hT, ← hS] at hsp
  rw [← hT] at e1 hTl
  rw [← hS] at e2
  unfold prvF at hsp
  rw [if_neg (fun h => by cases h), if_neg (fun h => h.elim (fun h => by cases h) fun h => by omega)] at hsp
  by_cases hSl : S.length = 0
  · rw [if_pos hSl] at hsp; rw [hsp] at h2; cases h2
  · rw [if_neg hSl] at hsp
    by_cases ho : othA TT SS T S = true
    · rw [if_pos ho] at hsp; rw [hsp] at h2; cases h2
    · rw [if_neg ho] at hsp
      rw [hsp]
      dsimp only
      clear hsp h2
      have hB0 : 0 < B := by
        rcases Nat.eq_zero_or_pos B with h | h
        · subst h
          exfalso
          apply hSl
          rw [hS]
          unfold bitsI natL
          rw [List.filter_eq_nil_iff.2 fun k _ => by rw [bitsP_test, Nat.zero_testBit]; decide]; rfl
        · exact h
      obtain ⟨s, rfl⟩ : ∃ s, B = s + 1 := ⟨B - 1, by omega⟩
      have hmem : ∀ x ∈ T, ∃ k : Nat, x = k ∧ k < TT.length ∧ bitsP A k = true := fun x hx => by rw [e1] at hx; exact natF_mem.1 hx
      have hon : ∀ k, k < TT.length → bitsP A k = true → onP TT SS S (headF TT) (restF TT) (minL (headF TT) T) (minL (restF TT) T) k = true := fun k hk hp => by
        have hkT : (k : Int) ∈ T := by rw [e1]; exact natF_mem.2 ⟨k, rfl, hk, hp⟩
        have g1 := minL_le (H := headF TT) hkT
        have g2 := minL_le (H := restF TT) hkT
        rw [Int.toNat_natCast] at g1 g2
        have g3 : (List.range SS.length).any (othP TT SS S k) = false := by
          cases e : (List.range SS.length).any (othP TT SS S k) with
          | false => rfl
          | true => exact absurd (List.any_eq_true.2 ⟨(k : Int), hkT, by rw [Int.toNat_natCast]; exact e⟩) ho
        unfold onP
        rw [g3, decide_eq_false (by omega), decide_eq_false (by omega)]; rfl
      obtain ⟨j1, hj1, ej1⟩ := minL_at (H := headF TT) hTl
      obtain ⟨j2, hj2, ej2⟩ := minL_at (H := restF TT) hTl
      obtain ⟨k1, rfl, hk1, -⟩ := hmem j1 hj1
      obtain ⟨k2, rfl, hk2, -⟩ := hmem j2 hj2
      rw [Int.toNat_natCast] at ej1 ej2
      have hin : ∀ {k : Nat} {H : List Int}, k < TT.length → H.length = TT.length → H.getD k 0 ∈ disF H := fun {k H} hk hH => dis_mem (by rw [gD (by omega)]; exact List.getElem_mem _)
      have hUT : ∀ x ∈ T, x ∈ onF TT SS S (headF TT) (restF TT) (minL (headF TT) T) (minL (restF TT) T) := fun x hx => by
        obtain ⟨k, rfl, hk, hp⟩ := hmem x hx
        rw [on_eq]; exact natF_mem.2 ⟨k, rfl, hk, hon k hk hp⟩
      have hUl : 0 < (onF TT SS S (headF TT) (restF TT) (minL (headF TT) T) (minL (restF TT) T)).length := List.length_pos_of_mem (hUT _ (hd_mem hTl))
      have key := low_hit (TT := TT) (SS := SS) (s := s) (le := minL (headF TT) T) (af := minL (restF TT) T) (by omega) (by rw [ej1]; exact hin hk1 (head_bd hF).1) (by rw [ej2]; exact hin hk2 (rest_rb hF).1) (by rw [← e2]; exact List.length_pos_iff.1 hUl)
      rw [← e2] at key
      refine Int.le_trans ?_ key
      rw [sh_eq, sh_eq]
      have m1 : minL (headF TT) T ≤ minL (headF TT) (onF TT SS S (headF TT) (restF TT) (minL (headF TT) T) (minL (restF TT) T)) := minL_ge hUl fun i hi => by
        rw [on_eq] at hi
        obtain ⟨k, rfl, _, hp⟩ := natF_mem.1 hi
        rw [Int.toNat_natCast]; exact (onP_oth hp).1
      have m2 : minL (restF TT) T ≤ minL (restF TT) (onF TT SS S (headF TT) (restF TT) (minL (headF TT) T) (minL (restF TT) T)) := minL_ge hUl fun i hi => by
        rw [on_eq] at hi
        obtain ⟨k, rfl, _, hp⟩ := natF_mem.1 hi
        rw [Int.toNat_natCast]; exact (onP_oth hp).2.1
      have m3 : sumD TT T ≤ sumD TT (onF TT SS S (headF TT) (restF TT) (minL (headF TT) T) (minL (restF TT) T)) := by
        rw [on_eq]
        conv => lhs; rw [e1]
        exact sumD_sub hF hon TT.length (Nat.le_refl _)
      have m4 : ((sumD TT T).toNat + S.length - 1) / S.length ≤ ((sumD TT (onF TT SS S (headF TT) (restF TT) (minL (headF TT) T) (minL (restF TT) T))).toNat + S.length - 1) / S.length := Nat.div_le_div_right (by omega)
      generalize ((sumD TT T).toNat + S.length - 1) / S.length = d1 at m4 ⊢
      generalize ((sumD TT (onF TT SS S (headF TT) (restF TT) (minL (headF TT) T) (minL (restF TT) T))).toNat + S.length - 1) / S.length = d2 at m4 ⊢
      omega
/-- Lower gives the greatest bound that has a proof -/
theorem low_max (hF : Fit TT) (hE : shopE TT SS = 0) (hN : TT.length ≤ 16) (hM : SS.length ≤ 16) : LwM TT SS (lowF TT SS).1 := by
  obtain ⟨h1, h2, h3⟩ := crt_max hF hE
  have hc := low_crt (TT := TT) (SS := SS)
  refine ⟨by omega, fun i hi => by have := h2 i hi; omega, fun A B hq h0 h2 => set_le hF hN hM hq.1 hq.2 h0 h2, ?_⟩
  have hw := low_wit (TT := TT) (SS := SS)
  have hp := wit_prv hF hE hw
  rcases hw with h | ⟨s, le, af, hs, hn, h⟩
  · rw [h]
    rcases h3 with h | h
    · exact .inl h
    · exact .inr (.inl h)
  · obtain ⟨A, hA, eA⟩ := bits_of (onP TT SS (bitsI (s + 1) SS.length) (headF TT) (restF TT) le af) hN
    rw [← on_eq] at eA
    have e2 : bitsI (s + 1) 16 = bitsI (s + 1) SS.length := bits_short (by omega) hM
    rw [h] at hp ⊢
    dsimp only at *
    have e3 : setP TT SS A (s + 1) = (shF TT (headF TT) (restF TT) (onF TT SS (bitsI (s + 1) SS.length) (headF TT) (restF TT) le af) (bitsI (s + 1) SS.length).length, true) := by
      unfold setP; rw [eA, e2, hp]
    refine .inr (.inr ⟨A, s + 1, ⟨hA, by omega⟩, ?_, by rw [e3], by rw [e3]⟩)
    rcases Nat.eq_zero_or_pos A with g | g
    · subst g
      exfalso
      apply hn
      rw [← eA]
      unfold bitsI natL
      rw [List.filter_eq_nil_iff.2 fun k _ => by rw [bitsP_test, Nat.zero_testBit]; decide]; rfl
    · exact g
/-- its proof is accepted for just its bound -/
theorem low_vf (hF : Fit TT) (hE : shopE TT SS = 0) {b : Int} : vfE TT SS b (lowF TT SS).2.1 (lowF TT SS).2.2.1 (lowF TT SS).2.2.2 = if b ≤ (lowF TT SS).1 then 0 else 27 := by
  have hw := low_wit (TT := TT) (SS := SS)
  have hp := wit_prv hF hE hw
  obtain ⟨x, hx⟩ : ∃ x, x = lowF TT SS := ⟨_, rfl⟩
  rw [← hx] at hw hp ⊢
  have hform : ¬ (0 < x.2.1.length ∧ 0 < x.2.2.1.length + x.2.2.2.length) ∧ (∀ y ∈ x.2.1, 0 ≤ y ∧ y < (TT.length : Int)) ∧ (∀ y ∈ x.2.2.1, 0 ≤ y ∧ y < (TT.length : Int)) ∧ (∀ y ∈ x.2.2.2, 0 ≤ y ∧ y < (SS.length : Int)) ∧ incF x.2.2.1 = true ∧ incF x.2.2.2 = true := by
    rcases hw with rfl | ⟨s, le, af, hs, hn, rfl⟩
    · exact ⟨fun h => by have := h.2; simp at this, lk_rng (crt_chain hF hE).1, nofun, nofun, rfl, rfl⟩
    · refine ⟨fun h => by have := h.1; simp at this, nofun, fun y hy => onF_mem hy, fun y hy => bits_lt (N := SS.length) (by omega) y hy, inc_incF (natF_inc _ _), inc_incF (natF_inc _ _)⟩
  obtain ⟨f1, f2, f3, f4, f5, f6⟩ := hform
  unfold vfE
  rw [if_neg (fun h => h hE), if_neg f1, byF_no f2, byF_no f3, byF_no f4, f5, f6, if_neg (by decide), if_neg (by decide), pv_prv (fun h => f1 ⟨h.1, by omega⟩), hp, Bool.true_and]
  by_cases hb : b ≤ x.1
  · rw [if_pos hb, if_neg (by simpa using hb)]
  · rw [if_neg hb, if_pos (by simpa using hb)]
end
end Go.Proofs.YtnlkffccobdbjaaGreat
namespace Go.Proofs.YtnlkffccobdbjaaGreat
open Go Go.RowKit Go.Dw
section
variable {TT : List Tk} {SS : List Sn} {L : List Jb}
theorem rk_le {i : Nat} (h : TT.length ≤ (ordF TT).length) (hi : i < TT.length) : rkV TT i < TT.length := by
  have := List.idxOf_lt_length_of_mem (ordF_all h hi)
  have := ordF_le TT
  unfold rkV; omega
theorem tail_snd (hF : Fit TT) (hO : TT.length ≤ (ordF TT).length) (hL : Sch TT SS L) : ∀ (m : Nat) (i : Nat), TT.length - rkV TT i ≤ m → i < TT.length → stA L i + tlV TT i ≤ mspF TT L := by
  intro m
  induction m with
  | zero => intro i h hi; have := rk_le hO hi; omega
  | succ m ih =>
    intro i h hi
    have hm := tail_max hF hO hi
    have he := hL.msp.2.1 i hi
    rcases hm.a with e | ⟨k, ⟨hk, hin⟩, e⟩
    · omega
    · have hx := (inL_iff hF hk).1 hin
      have h1 := rk_lt hO hk hx
      rw [Int.toNat_natCast] at h1
      have h2 := hL.pr k hk _ hx
      rw [Int.toNat_natCast] at h2
      have h3 := rk_le hO hk
      have h4 := ih k (by omega) hk
      omega
theorem head_snd (hF : Fit TT) (hO : TT.length ≤ (ordF TT).length) (hL : Sch TT SS L) : ∀ (m : Nat) (i : Nat), rkV TT i ≤ m → i < TT.length → hdV TT i ≤ stA L i := by
  intro m
  induction m with
  | zero =>
    intro i h hi
    have hm := head_max hO hi
    rcases hm.a with e | ⟨k, hin, e⟩
    · rw [e]; exact (hL.s0 i hi).1
    · obtain ⟨x, hx, rfl⟩ := hin
      have := rk_lt hO hi hx
      omega
  | succ m ih =>
    intro i h hi
    have hm := head_max hO hi
    rcases hm.a with e | ⟨k, hin, e⟩
    · rw [e]; exact (hL.s0 i hi).1
    · obtain ⟨x, hx, rfl⟩ := hin
      have h1 := rk_lt hO hi hx
      have h2 := hL.pr i hi x hx
      have h3 := ih x.toNat (by omega) (by have := hF.a hi x hx; omega)
      omega
theorem sumD_perm {l m : List Int} (h : l.Perm m) : sumD TT l = sumD TT m := by
  induction h with
  | nil => rfl
  | cons x _ ih => rw [sumD_cons, sumD_cons, ih]
  | swap x y l => rw [sumD_cons, sumD_cons, sumD_cons, sumD_cons]; omega
  | trans _ _ h1 h2 => exact h1.trans h2
theorem ex_last (f : Int → Int) : ∀ (l : List Int), 0 < l.length → ∃ x ∈ l, ∀ y ∈ l, f y ≤ f x
  | [], h => by cases h
  | [x], _ => ⟨x, by simp, fun y hy => by rw [List.mem_singleton.1 hy]; exact Int.le_refl _⟩
  | x :: z :: l, _ => by
    obtain ⟨y, hy, h⟩ := ex_last f (z :: l) (by simp)
    by_cases hc : f y ≤ f x
    · exact ⟨x, by simp, fun w hw => by
        rcases List.mem_cons.1 hw with rfl | hw
        · exact Int.le_refl _
        · exact Int.le_trans (h w hw) hc⟩
    · exact ⟨y, List.mem_cons_of_mem _ hy, fun w hw => by
        rcases List.mem_cons.1 hw with rfl | hw
        · omega
        · exact h w hw⟩
/-- jobs of one station in a window are not longer than it -/
theorem window (hF : Fit TT) (hL : Sch TT SS L) {s : Int} {a : Int} : ∀ (m : Nat) (l : List Int) (b : Int), l.length ≤ m → l.Nodup → a ≤ b →
    (∀ x ∈ l, (0 ≤ x ∧ x < (TT.length : Int)) ∧ snA L x.toNat = s ∧ a ≤ stA L x.toNat ∧ stA L x.toNat + duA TT x.toNat ≤ b) → sumD TT l ≤ b - a := by
  intro m
  induction m with
  | zero =>
    intro l b h _ hab _
    obtain rfl : l = [] := List.eq_nil_of_length_eq_zero (by omega)
    show (0 : Int) ≤ b - a
    omega
  | succ m ih =>
    intro l b h hn hab hl
    rcases Nat.eq_zero_or_pos l.length with h0 | h0
    · obtain rfl : l = [] := List.eq_nil_of_length_eq_zero h0
      show (0 : Int) ≤ b - a
      omega
    · obtain ⟨x, hx, hmax⟩ := ex_last (fun x => stA L x.toNat) l h0
      obtain ⟨hxr, hxs, hxa, hxb⟩ := hl x hx
      have hp := List.perm_cons_erase hx
      rw [sumD_perm hp, sumD_cons]
      have hle : (l.erase x).length = l.length - 1 := List.length_erase_of_mem hx
      have := ih (l.erase x) (stA L x.toNat) (by omega) (hn.erase x) hxa fun y hy => by
        have hyl := List.mem_of_mem_erase hy
        have hyx : y ≠ x := (List.Nodup.mem_erase_iff hn).1 hy |>.1
        obtain ⟨hyr, hys, hya, hyb⟩ := hl y hyl
        refine ⟨hyr, hys, hya, ?_⟩
        have hm := hmax y hyl
        have hd := hF.d (i := x.toNat) (by omega)
        rcases hL.dj x.toNat y.toNat (by omega) (by omega) (by omega) (by rw [hxs, hys]) with g | g
        · omega
        · exact g
      omega
theorem spread (hF : Fit TT) (hL : Sch TT SS L) {a b : Int} (hab : a ≤ b) : ∀ (S : List Int) (l : List Int), l.Nodup →
    (∀ x ∈ l, (0 ≤ x ∧ x < (TT.length : Int)) ∧ snA L x.toNat ∈ S ∧ a ≤ stA L x.toNat ∧ stA L x.toNat + duA TT x.toNat ≤ b) → sumD TT l ≤ S.length * (b - a)
  | [], l, _, h => by
    cases l with
    | nil => simp [sumD]
    | cons x l => have := (h x (by simp)).2.1; cases this
  | s :: S, l, hn, h => by
    have hp : (l.filter (fun x => decide (snA L x.toNat = s)) ++ l.filter (fun x => !decide (snA L x.toNat = s))).Perm l := List.filter_append_perm _ l
    rw [← sumD_perm hp, sumD_app]
    have h1 := window hF hL (s := s) (a := a) _ (l.filter (fun x => decide (snA L x.toNat = s))) b (Nat.le_refl _) (hn.filter _) hab fun x hx => by
      obtain ⟨hx1, hx2⟩ := List.mem_filter.1 hx
      obtain ⟨g1, _, g3, g4⟩ := h x hx1
      exact ⟨g1, by simpa using hx2, g3, g4⟩
    have h2 := spread hF hL hab S (l.filter (fun x => !decide (snA L x.toNat = s))) (hn.filter _) fun x hx => by
      obtain ⟨hx1, hx2⟩ := List.mem_filter.1 hx
      obtain ⟨g1, g2, g3, g4⟩ := h x hx1
      have hne : ¬ snA L x.toNat = s := by simpa using hx2
      exact ⟨g1, (List.mem_cons.1 g2).resolve_left hne, g3, g4⟩
    rw [List.length_cons, show ((S.length + 1 : Nat) : Int) = (S.length : Int) + 1 by omega, Int.add_mul, Int.one_mul]
    omega
theorem ceil_le {n : Nat} (h0 : 0 < n) {s d : Int} (hd : 0 ≤ d) (h : s ≤ n * d) : (((s.toNat + n - 1) / n : Nat) : Int) ≤ d := by
  obtain ⟨k, rfl⟩ : ∃ k : Nat, d = k := ⟨d.toNat, by omega⟩
  have h2 : s.toNat ≤ n * k := by
    have : ((n * k : Nat) : Int) = (n : Int) * (k : Int) := Int.natCast_mul n k
    omega
  have : (s.toNat + n - 1) / n < k + 1 := by
    rw [Nat.div_lt_iff_lt_mul h0, Nat.add_mul, Nat.one_mul, Nat.mul_comm k n]; omega
  omega
/-- what a set of tasks proves, no schedule beats -/
theorem set_snd (hF : Fit TT) (hO : TT.length ≤ (ordF TT).length) (hL : Sch TT SS L) {T S : List Int} (hT0 : 0 < T.length) (hS0 : 0 < S.length) (hTn : T.Nodup) (hT : ∀ x ∈ T, (0 ≤ x ∧ x < (TT.length : Int)) ∧ (List.range SS.length).any (othP TT SS S x.toNat) = false) :
    shF TT (headF TT) (restF TT) T S.length ≤ mspF TT L := by
  have h1 : ∀ x ∈ T, minL (headF TT) T ≤ stA L x.toNat := fun x hx => Int.le_trans (minL_le hx) (head_snd hF hO hL _ _ (Nat.le_refl _) (by have := (hT x hx).1; omega))
  have h2 : ∀ x ∈ T, stA L x.toNat + duA TT x.toNat ≤ mspF TT L - minL (restF TT) T := fun x hx => by
    have hi : x.toNat < TT.length := by have := (hT x hx).1; omega
    have g1 := minL_le (H := restF TT) hx
    rw [rest_eq hO hi] at g1
    have g2 := tail_snd hF hO hL _ x.toNat (Nat.le_refl _) hi
    omega
  have hd := hd_mem hT0
  have hab : minL (headF TT) T ≤ mspF TT L - minL (restF TT) T := by
    have g1 := h1 _ hd
    have g2 := h2 _ hd
    have g3 := hF.d (i := (T.getD 0 0).toNat) (by have := (hT _ hd).1; omega)
    omega
  have h3 := spread hF hL hab S T hTn fun x hx => ⟨(hT x hx).1, by
    have hi : x.toNat < TT.length := by have := (hT x hx).1; omega
    obtain ⟨s0, s1⟩ := hL.st _ hi
    have hc := hL.can _ hi
    have hno := List.any_eq_false.1 (hT x hx).2 (snA L x.toNat).toNat (List.mem_range.2 (by omega))
    unfold othP at hno
    rw [hc, Bool.true_and] at hno
    have : ((snA L x.toNat).toNat : Int) ∈ S := by simpa using hno
    rwa [Int.toNat_of_nonneg s0] at this, h1 x hx, h2 x hx⟩
  have h4 := ceil_le hS0 (by omega) h3
  rw [sh_eq]
  generalize ((sumD TT T).toNat + S.length - 1) / S.length = d at h4 ⊢
  omega
/-- no schedule is shorter than what Lower gives -/
theorem low_snd (hF : Fit TT) (hE : shopE TT SS = 0) (hL : Sch TT SS L) : (lowF TT SS).1 ≤ mspF TT L := by
  have hO := (shop_ok hE).2.2.2.1
  rcases low_wit (TT := TT) (SS := SS) with h | ⟨s, le, af, hs, hn, h⟩
  · rw [h]
    obtain ⟨_, _, h3⟩ := crt_max hF hE
    rcases h3 with h | ⟨i, hi, h⟩
    · dsimp only; rw [h]; exact hL.msp.1
    · dsimp only
      rw [h]
      have := tail_snd hF hO hL _ i (Nat.le_refl _) hi
      have := (hL.s0 i hi).1
      omega
  · rw [h]
    refine set_snd hF hO hL (List.length_pos_iff.2 hn) (bitsI_pos (by omega) (by omega)) ?_ fun x hx => ⟨onF_mem hx, ?_⟩
    · rw [on_eq]; exact (natF_inc _ _).imp fun {a b} h => by omega
    · rw [on_eq] at hx
      obtain ⟨k, rfl, _, hp⟩ := natF_mem.1 hx
      rw [Int.toNat_natCast]; exact (onP_oth hp).2.2
end
end Go.Proofs.YtnlkffccobdbjaaGreat
