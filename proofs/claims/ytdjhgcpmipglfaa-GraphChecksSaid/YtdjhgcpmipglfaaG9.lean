/- Contract of the graph's components; what they are, in plain lists. Its premises are its own. -/
import Derived.Test.YtdjhgcpmipglfaaG8
namespace Go.Proofs.Ytdjhgcpmipglfaa
open Go Go.RowKit Go.Dw

/-- Do a and b reach each other? -/
def eqv (N : Nat) (E : List (Int × Int)) (a b : Nat) : Bool := rch N E a b && rch N E b a
theorem eqv_symm {N : Nat} {E : List (Int × Int)} {a b : Nat} : eqv N E a b = eqv N E b a := by unfold eqv; rw [Bool.and_comm]
theorem rch_refl {N : Nat} {E : List (Int × Int)} (hG : Gr N E) {a : Nat} (ha : a < N) : rch N E a a = true := (rch_iff hG (by omega)).2 ⟨0, by simp [wlk]⟩
theorem rch_trans {N : Nat} {E : List (Int × Int)} (hG : Gr N E) {a b c : Nat} (ha : a < N) (hb : b < N) (h1 : rch N E a b = true) (h2 : rch N E b c = true) : rch N E a c = true := by
  obtain ⟨s, hs⟩ := (rch_iff hG (by omega)).1 h1
  obtain ⟨t, ht⟩ := (rch_iff hG (by omega)).1 h2
  exact (rch_iff hG (by omega)).2 ⟨s + t, wlk_add hs ht⟩
theorem eqv_refl {N : Nat} {E : List (Int × Int)} (hG : Gr N E) {a : Nat} (ha : a < N) : eqv N E a a = true := by unfold eqv; simp [rch_refl hG ha]
theorem eqv_trans {N : Nat} {E : List (Int × Int)} (hG : Gr N E) {a b c : Nat} (ha : a < N) (hb : b < N) (hc : c < N) (h1 : eqv N E a b = true) (h2 : eqv N E b c = true) : eqv N E a c = true := by
  unfold eqv at *
  simp only [Bool.and_eq_true] at *
  exact ⟨rch_trans hG ha hb h1.1 h2.1, rch_trans hG hc hb h2.2 h1.2⟩
/-- the least of its class -/
def isLeast (N : Nat) (E : List (Int × Int)) (k : Nat) : Bool := (List.range k).all fun j => !eqv N E j k
def reps (N : Nat) (E : List (Int × Int)) (k : Nat) : List Nat := (List.range k).filter (isLeast N E)
def cls (N : Nat) (E : List (Int × Int)) (k : Nat) : List Int := ((List.range N).filter fun j => eqv N E k j).map fun (j : Nat) => (j : Int)
def ofK (N : Nat) (E : List (Int × Int)) (k j : Nat) : Int := idxBy (fun r => eqv N E r j) (reps N E k)
def compF (N : Nat) (E : List (Int × Int)) : List (List Int) := (reps N E N).map (cls N E)
def ofF (N : Nat) (E : List (Int × Int)) : List Int := (List.range N).map (ofK N E N)
theorem reps_succ (N : Nat) (E : List (Int × Int)) (k : Nat) : reps N E (k + 1) = reps N E k ++ (if isLeast N E k then [k] else []) := by
  unfold reps
  rw [List.range_succ, List.filter_append]
  by_cases h : isLeast N E k = true <;> simp [h]
theorem reps_lt {N : Nat} {E : List (Int × Int)} {k r : Nat} (h : r ∈ reps N E k) : r < k ∧ isLeast N E r = true := by
  unfold reps at h; simpa using h
theorem reps_len (N : Nat) (E : List (Int × Int)) (k : Nat) : (reps N E k).length ≤ k := Nat.le_trans (List.length_filter_le _ _) (by simp)
/-- each node has a least one of its class -/
theorem least_of {N : Nat} {E : List (Int × Int)} (hG : Gr N E) : ∀ (j : Nat), j < N → ∃ r, r ≤ j ∧ isLeast N E r = true ∧ eqv N E r j = true := by
  intro j
  induction j using Nat.strongRecOn with
  | _ j ih =>
    intro hj
    cases h : isLeast N E j with
    | true => exact ⟨j, Nat.le_refl _, h, eqv_refl hG hj⟩
    | false =>
      unfold isLeast at h
      simp only [List.all_eq_false, List.mem_range] at h
      obtain ⟨i, hi, hm⟩ := h
      simp at hm
      obtain ⟨r, h1, h2, h3⟩ := ih i hi (by omega)
      exact ⟨r, by omega, h2, eqv_trans hG (by omega) (by omega) hj h3 hm⟩
theorem ofK_neg {N : Nat} {E : List (Int × Int)} {k j : Nat} : ofK N E k j < 0 ↔ ∀ r ∈ reps N E k, eqv N E r j = false := by
  have h := idxBy_any (fun r => eqv N E r j) (reps N E k)
  unfold ofK
  constructor
  · intro h1 r hr
    rw [decide_eq_false (by omega)] at h
    exact Bool.eq_false_iff.2 (List.any_eq_false.1 h.symm r hr)
  · intro h1
    have : (reps N E k).any (fun r => eqv N E r j) = false := List.any_eq_false.2 fun r hr => by rw [h1 r hr]; simp
    rw [this] at h
    simpa using h
/-- a node whose class is not yet listed is the least of it -/
theorem ofK_self {N : Nat} {E : List (Int × Int)} (hG : Gr N E) {k : Nat} (hk : k < N) : ofK N E k k < 0 ↔ isLeast N E k = true := by
  rw [ofK_neg]
  constructor
  · intro h
    obtain ⟨r, h1, h2, h3⟩ := least_of hG k hk
    by_cases e : r = k
    · subst e; exact h2
    · have := h r (by unfold reps; simp [h2]; omega)
      rw [h3] at this; cases this
  · intro h r hr
    have := (reps_lt hr).1
    unfold isLeast at h
    simpa using List.all_eq_true.1 h r (List.mem_range.2 this)
theorem idxBy_append {α : Type} (p : α → Bool) (x : α) : ∀ L : List α, idxBy p (L ++ [x]) = if idxBy p L < 0 then (if p x then (L.length : Int) else -1) else idxBy p L
  | [] => by simp [idxBy]
  | y :: r => by
    have ih := idxBy_append p x r
    have hg := idxBy_ge p r
    simp only [List.cons_append, idxBy, ih]
    by_cases h : p y = true
    · simp [h]
    · simp only [h, Bool.false_eq_true, if_false]
      by_cases h2 : idxBy p r < 0
      · rw [if_pos h2, if_pos h2]
        by_cases h3 : p x = true
        · simp [h3]; omega
        · simp [h3]
      · rw [if_neg h2, if_neg h2, if_neg (by omega)]
/-- of[j] once k's class is under way, up to m -/
def ofM (N : Nat) (E : List (Int × Int)) (k m j : Nat) : Int := if decide (j < m) && decide (k ≤ j) && eqv N E k j then ((reps N E k).length : Int) else ofK N E k j
def clsM (N : Nat) (E : List (Int × Int)) (k m : Nat) : List Int := ((List.range m).filter fun j => decide (k ≤ j) && eqv N E k j).map fun (j : Nat) => (j : Int)
theorem clsM_start (N : Nat) (E : List (Int × Int)) (k : Nat) : clsM N E k k = [] := by
  unfold clsM
  rw [List.filter_eq_nil_iff.2 (fun j hj => by have := List.mem_range.1 hj; simp; omega)]
  rfl
theorem clsM_succ (N : Nat) (E : List (Int × Int)) {k m : Nat} (h : k ≤ m) : clsM N E k (m + 1) = if eqv N E k m then clsM N E k m ++ [(m : Int)] else clsM N E k m := by
  unfold clsM
  rw [List.range_succ, List.filter_append, List.map_append]
  by_cases hb : eqv N E k m = true <;> simp [hb, h]
theorem least_eqv {N : Nat} {E : List (Int × Int)} {k j : Nat} (h : isLeast N E k = true) (hm : eqv N E k j = true) : k ≤ j := by
  by_cases h2 : j < k
  · have := List.all_eq_true.1 h j (List.mem_range.2 h2)
    rw [eqv_symm, hm] at this; cases this
  · omega
theorem clsM_end {N : Nat} {E : List (Int × Int)} {k : Nat} (h : isLeast N E k = true) : clsM N E k N = cls N E k := by
  unfold clsM cls
  congr 1
  apply List.filter_congr
  intro j _
  by_cases hm : eqv N E k j = true
  · simp [hm, least_eqv h hm]
  · simp [hm]
theorem clsM_len (N : Nat) (E : List (Int × Int)) (k m : Nat) : (clsM N E k m).length ≤ m := by
  unfold clsM; rw [List.length_map]
  exact Nat.le_trans (List.length_filter_le _ _) (by simp)
theorem ofM_end {N : Nat} {E : List (Int × Int)} (hG : Gr N E) {k j : Nat} (hk : k < N) (hj : j < N) (h : isLeast N E k = true) : ofM N E k N j = ofK N E (k + 1) j := by
  unfold ofM
  rw [show ofK N E (k + 1) j = idxBy (fun r => eqv N E r j) (reps N E k ++ [k]) by unfold ofK; rw [reps_succ, if_pos h], idxBy_append]
  by_cases hm : eqv N E k j = true
  · rw [if_pos (by simp [hm, hj, least_eqv h hm])]
    rw [if_pos ?_, if_pos hm]
    refine ofK_neg.2 fun r hr => ?_
    cases hrj : eqv N E r j with
    | false => rfl
    | true =>
      have h1 := (reps_lt hr).1
      have h2 := eqv_trans hG (by omega) hj hk hrj (by rw [eqv_symm]; exact hm)
      have := List.all_eq_true.1 h r (List.mem_range.2 h1)
      rw [h2] at this; cases this
  · rw [if_neg (by simp [hm]), if_neg (c := (fun r => eqv N E r j) k = true) hm]
    unfold ofK
    have := idxBy_ge (fun r => eqv N E r j) (reps N E k)
    split
    · omega
    · rfl
theorem ofK_next {N : Nat} {E : List (Int × Int)} {k j : Nat} (h : isLeast N E k = false) : ofK N E (k + 1) j = ofK N E k j := by
  unfold ofK; rw [reps_succ, h]; simp
theorem rchL_get {N : Nat} {E : List (Int × Int)} {a b : Nat} (h1 : a < (cloF N E).length) (h2 : b < ((cloF N E)[a]).length) : ((cloF N E)[a])[b] = rch N E a b := by
  simp [cloF, rchL]
def ofLM (N : Nat) (E : List (Int × Int)) (k m : Nat) : List Int := (List.range N).map (ofM N E k m)
theorem ofLM_step {N : Nat} {E : List (Int × Int)} {k m : Nat} (hkm : k ≤ m) : ofLM N E k (m + 1) = if eqv N E k m then (ofLM N E k m).set m ((reps N E k).length : Int) else ofLM N E k m := by
  apply List.ext_getElem
  · split <;> simp [ofLM]
  · intro i h1 h2
    simp only [ofLM, List.getElem_map, List.getElem_range]
    by_cases hb : eqv N E k m = true
    · simp only [if_pos hb, List.getElem_set, List.getElem_map, List.getElem_range]
      by_cases e : m = i
      · subst e; simp [ofM, hkm, hb]
      · rw [if_neg e]
        unfold ofM
        by_cases h3 : i < m
        · simp [h3, show i < m + 1 by omega]
        · simp [h3, show ¬ i < m + 1 by omega]
    · simp only [if_neg hb, List.getElem_map, List.getElem_range]
      unfold ofM
      by_cases e : m = i
      · subst e; simp [hb]
      · by_cases h3 : i < m
        · simp [h3, show i < m + 1 by omega]
        · simp [h3, show ¬ i < m + 1 by omega]
def ofL (N : Nat) (E : List (Int × Int)) (k : Nat) : List Int := (List.range N).map (ofK N E k)
theorem ofL_zero (N : Nat) (E : List (Int × Int)) : ofL N E 0 = List.replicate N (-1) := by
  apply List.ext_getElem
  · simp [ofL]
  · intro i h1 h2; simp [ofL, ofK, reps, idxBy]
theorem ofLM_start (N : Nat) (E : List (Int × Int)) (k : Nat) : ofLM N E k k = ofL N E k := by
  unfold ofLM ofL
  apply List.map_congr_left
  intro j _
  unfold ofM
  rw [if_neg]
  simp
  omega
theorem ofLM_end {N : Nat} {E : List (Int × Int)} (hG : Gr N E) {k : Nat} (hk : k < N) (h : isLeast N E k = true) : ofLM N E k N = ofL N E (k + 1) := by
  unfold ofLM ofL
  apply List.map_congr_left
  intro j hj
  exact ofM_end hG hk (List.mem_range.1 hj) h
theorem ofL_next {N : Nat} {E : List (Int × Int)} {k : Nat} (h : isLeast N E k = false) : ofL N E (k + 1) = ofL N E k := by
  unfold ofL
  apply List.map_congr_left
  intro j _
  exact ofK_next h
end Go.Proofs.Ytdjhgcpmipglfaa
