/- The plain law of components: classes, the places of nodes, and which classes no edge leaves. No condition of its own. -/
import Derived.Test.YtdjhgcpmipglfaaYP7
namespace Go.Proofs.Ytdjhgcpmipglfaa
open Go Go.RowKit Go.Dw
def clsT (N : Nat) (E : List (Int × Int)) (a b : Nat) : List Int := ((List.range b).filter (eqv N E a)).map fun v : Nat => (v : Int)
theorem clsT_succ (N : Nat) (E : List (Int × Int)) (a b : Nat) : clsT N E a (b + 1) = if eqv N E a b then clsT N E a b ++ [(b : Int)] else clsT N E a b := by
  unfold clsT
  rw [List.range_succ, List.filter_append, List.map_append]
  by_cases h : eqv N E a b <;> simp [h]
theorem clsT_len (N : Nat) (E : List (Int × Int)) (a b : Nat) : (clsT N E a b).length ≤ b := by
  unfold clsT; rw [List.length_map]; exact Nat.le_trans (List.length_filter_le _ _) (by simp)
theorem clsT_end (N : Nat) (E : List (Int × Int)) (a : Nat) : clsT N E a N = cls N E a := rfl
theorem eqv_dz {N : Nat} {E : List (Int × Int)} {a b : Nat} : eqv N E a b = (decide (0 ≤ dz (dst N E a b)) && decide (0 ≤ dz (dst N E b a))) := by
  unfold eqv rch; rw [isSome_dz, isSome_dz]
theorem head_le {L : List Int} (h : L.Pairwise (· < ·)) {x : Int} (hx : x ∈ L) : ∃ h : 0 < L.length, L[0] ≤ x := by
  obtain ⟨i, hi, rfl⟩ := List.getElem_of_mem hx
  refine ⟨by omega, ?_⟩
  by_cases h0 : i = 0
  · subst h0; exact Int.le_refl _
  · exact Int.le_of_lt (List.pairwise_iff_getElem.1 h 0 i (by omega) hi (by omega))
theorem cls_self {N : Nat} {E : List (Int × Int)} (hG : Gr N E) {a : Nat} (ha : a < N) : (a : Int) ∈ cls N E a := mem_cast.2 ⟨a, ha, eqv_refl hG ha, rfl⟩
theorem cls_head {N : Nat} {E : List (Int × Int)} (hG : Gr N E) {a : Nat} (ha : a < N) : ∃ h : 0 < (cls N E a).length, ((cls N E a)[0] = a ↔ isLeast N E a = true) := by
  obtain ⟨h, hle⟩ := head_le (cast_asc N _) (cls_self hG ha)
  refine ⟨h, fun he => ?_, fun hl => ?_⟩
  · unfold isLeast
    rw [List.all_eq_true]
    intro j hj
    have hj := List.mem_range.1 hj
    cases hm : eqv N E j a with
    | false => rfl
    | true =>
      obtain ⟨h2, h3⟩ := head_le (cast_asc N _) (show (j : Int) ∈ cls N E a from mem_cast.2 ⟨j, by omega, by rw [eqv_symm]; exact hm, rfl⟩)
      have h4 : (cls N E a)[0] ≤ j := h3
      omega
  · obtain ⟨v, _, hm, hv⟩ := mem_cast.1 (show (cls N E a)[0] ∈ cls N E a from List.getElem_mem h)
    have := least_eqv hl hm
    have hle : (cls N E a)[0] ≤ a := hle
    omega
def compK (N : Nat) (E : List (Int × Int)) (k : Nat) : List (List Int) := (reps N E k).map (cls N E)
theorem compK_succ (N : Nat) (E : List (Int × Int)) (k : Nat) : compK N E (k + 1) = if isLeast N E k then compK N E k ++ [cls N E k] else compK N E k := by
  unfold compK
  rw [reps_succ, List.map_append]
  by_cases h : isLeast N E k = true <;> simp [h]
theorem compK_len (N : Nat) (E : List (Int × Int)) (k : Nat) : (compK N E k).length ≤ k := by unfold compK; rw [List.length_map]; exact reps_len N E k
theorem compK_end (N : Nat) (E : List (Int × Int)) : compK N E N = compF N E := rfl
theorem reps_nodup {N : Nat} {E : List (Int × Int)} {k : Nat} : (reps N E k).Pairwise (· < ·) := List.Pairwise.filter _ (pw_range k)
/-- a node stands in just the class that its place names -/
theorem mem_comp {N : Nat} {E : List (Int × Int)} (hG : Gr N E) {i : Nat} (hi : i < (compF N E).length) {v : Nat} (hv : v < N) : (v : Int) ∈ (compF N E)[i] ↔ ofv N E v = i := by
  have hi' : i < (reps N E N).length := by rw [← comp_len]; exact hi
  have hget : (compF N E)[i] = cls N E (reps N E N)[i] := by simp [compF]
  have hr := reps_lt (List.getElem_mem hi')
  obtain ⟨k, h1, h2, h3⟩ := of_get hG hv
  have hk := reps_lt (List.getElem_mem h2)
  rw [hget]
  have hm : (v : Int) ∈ cls N E (reps N E N)[i] ↔ eqv N E (reps N E N)[i] v = true := by
    unfold cls
    rw [mem_cast]
    constructor
    · rintro ⟨w, _, h, e⟩
      have : v = w := by omega
      rw [this]; exact h
    · intro h; exact ⟨v, hv, h, rfl⟩
  rw [hm, h1]
  constructor
  · intro h
    have he := eqv_trans hG hr.1 hv hk.1 h (by rw [eqv_symm]; exact h3)
    have a1 := least_eqv hr.2 he
    have a2 := least_eqv hk.2 (by rw [eqv_symm]; exact he)
    have pw := List.pairwise_iff_getElem.1 (reps_nodup (N := N) (E := E) (k := N))
    have : i = k := by
      rcases Nat.lt_trichotomy i k with h | h | h
      · have := pw i k hi' h2 h; omega
      · exact h
      · have := pw k i h2 hi' h; omega
    omega
  · intro h
    have : k = i := by omega
    subst this; exact h3
theorem comp_rng {N : Nat} {E : List (Int × Int)} {i : Nat} (hi : i < (compF N E).length) {x : Int} (hx : x ∈ (compF N E)[i]) : 0 ≤ x ∧ x < N := by
  have hget : (compF N E)[i] = cls N E ((reps N E N)[i]'(by rw [← comp_len]; exact hi)) := by simp [compF]
  rw [hget] at hx
  obtain ⟨v, h1, _, rfl⟩ := mem_cast.1 hx
  omega
/-- the places once the classes before the i-th one are written, and k nodes of this one -/
def ofS (N : Nat) (E : List (Int × Int)) (i k : Nat) : List Int := (List.range N).map fun v : Nat => if ofv N E v < i ∨ (v : Int) ∈ ((compF N E).getD i []).take k then ofv N E v else 0
theorem ofS_zero {N : Nat} {E : List (Int × Int)} (hG : Gr N E) : ofS N E 0 0 = List.replicate N 0 := by
  apply List.ext_getElem
  · simp [ofS]
  · intro i h1 h2
    have hi : i < N := by simpa using h2
    have := ofv_rng hG (x := (i : Int)) (by omega)
    simp only [ofS, List.getElem_map, List.getElem_range, List.getElem_replicate, List.take_zero, List.not_mem_nil, or_false]
    rw [if_neg (by omega)]
theorem ofS_step {N : Nat} {E : List (Int × Int)} (hG : Gr N E) {i k x : Nat} (hi : i < (compF N E).length) (hk : k < ((compF N E)[i]).length) (hx : ((compF N E)[i])[k] = x) : (ofS N E i k).set x i = ofS N E i (k + 1) := by
  unfold ofS
  rw [range_set]
  have hg : (compF N E).getD i [] = (compF N E)[i] := by simp [List.getD, hi]
  rw [hg]
  refine List.map_congr_left fun v hv => ?_
  have hvN := List.mem_range.1 hv
  rw [List.take_succ_eq_append_getElem hk, hx]
  by_cases h : v = x
  · subst h
    have hm : (v : Int) ∈ (compF N E)[i] := by rw [← hx]; exact List.getElem_mem hk
    rw [if_pos rfl, if_pos (.inr (by simp)), (mem_comp hG hi hvN).1 hm]
  · rw [if_neg h]
    have : ((v : Int) ∈ ((compF N E)[i]).take k ++ [(x : Int)]) ↔ (v : Int) ∈ ((compF N E)[i]).take k := by
      simp only [List.mem_append, List.mem_singleton]
      constructor
      · rintro (h2 | h2)
        · exact h2
        · omega
      · exact .inl
    simp only [this]
theorem ofS_next {N : Nat} {E : List (Int × Int)} (hG : Gr N E) {i : Nat} (hi : i < (compF N E).length) : ofS N E i ((compF N E)[i]).length = ofS N E (i + 1) 0 := by
  unfold ofS
  have hg : (compF N E).getD i [] = (compF N E)[i] := by simp [List.getD, hi]
  rw [hg]
  refine List.map_congr_left fun v hv => ?_
  have hvN := List.mem_range.1 hv
  rw [List.take_length, List.take_zero]
  have := mem_comp hG hi hvN
  by_cases h : ofv N E v < (i + 1 : Nat)
  · rw [if_pos, if_pos (.inl h)]
    by_cases h2 : ofv N E v < i
    · exact .inl h2
    · exact .inr (this.2 (by omega))
  · rw [if_neg, if_neg (by simp only [List.not_mem_nil, or_false]; exact h)]
    rintro (h2 | h2)
    · omega
    · have := this.1 h2; omega
theorem ofS_end {N : Nat} {E : List (Int × Int)} (hG : Gr N E) : ofS N E (compF N E).length 0 = ofF N E := by
  apply List.ext_getElem
  · simp [ofS, ofF]
  · intro i h1 h2
    have hi : i < N := by simpa [ofF] using h2
    have := ofv_rng hG (x := (i : Int)) (by omega)
    simp only [ofS, List.getElem_map, List.getElem_range]
    rw [if_pos (.inl this.2)]
    unfold ofv
    simp [List.getD, h2]
theorem closed_cast {N : Nat} {E : List (Int × Int)} (hG : Gr N E) (p : Nat → Bool) {L : List Int} (hL : L = ((List.range N).filter p).map fun v : Nat => (v : Int)) : (!E.any (leaves L)) = decide ((reaK N E L N).length = L.length) := by
  have hr : ∀ x ∈ L, 0 ≤ x ∧ x < N := fun x hx => by rw [hL] at hx; obtain ⟨v, h1, _, rfl⟩ := mem_cast.1 hx; omega
  have hin : ∀ v ∈ List.range N, p v = true → isR N E L v = true := fun v hv hb =>
    (isR_iff hG hr).2 ⟨v, by rw [hL]; exact mem_cast.2 ⟨v, List.mem_range.1 hv, hb, rfl⟩, 0, by simp [wlk]⟩
  have key := filter_len hin
  have e : (reaK N E L N).length = L.length ↔ ∀ v ∈ List.range N, isR N E L v = true → p v = true := by
    rw [← key]; unfold reaK; rw [List.length_map]
    have : L.length = ((List.range N).filter p).length := by rw [hL, List.length_map]
    rw [this]
  rw [Bool.eq_iff_iff, decide_eq_true_eq, e, Bool.not_eq_true']
  constructor
  · intro hc v hv hrr
    obtain ⟨x, hx, s, hw⟩ := (isR_iff hG hr).1 hrr
    have := wlk_closed hc hx hw
    rw [hL] at this
    obtain ⟨v', _, hb, he⟩ := mem_cast.1 this
    have : v = v' := by omega
    rw [this]; exact hb
  · intro h
    rw [List.any_eq_false]
    intro e he
    unfold leaves
    simp only [Bool.and_eq_true, decide_eq_true_eq, Bool.not_eq_true', decide_eq_false_iff_not]
    rintro ⟨h1, h2⟩
    have hr' := hG.rng _ he
    obtain ⟨v, hv⟩ : ∃ v : Nat, e.2 = v := ⟨_, (Int.toNat_of_nonneg hr'.2.2.1).symm⟩
    have := h v (List.mem_range.2 (by omega)) ((isR_iff hG hr).2 ⟨e.1, h1, 1, wlk_succ.2 ⟨e.1, by rw [← hv]; exact he, by simp [wlk]⟩⟩)
    exact h2 (by rw [hL]; exact mem_cast.2 ⟨v, by omega, this, hv⟩)
/-- a class is closed exactly if it is a sink -/
theorem sink_closed {N : Nat} {E : List (Int × Int)} (hG : Gr N E) {i : Nat} (hi : i < (compF N E).length) : decide ((reaK N E (compF N E)[i] N).length = ((compF N E)[i]).length) = isSink N E i := by
  have hget : (compF N E)[i] = cls N E ((reps N E N)[i]'(by rw [← comp_len]; exact hi)) := by simp [compF]
  rw [← closed_cast hG (fun j => eqv N E ((reps N E N)[i]'(by rw [← comp_len]; exact hi)) j) (by rw [hget]; rfl)]
  unfold isSink
  congr 1
  rw [Bool.eq_iff_iff, List.any_eq_true, List.any_eq_true]
  have key : ∀ e ∈ E, (e.1 ∈ (compF N E)[i] ↔ ofv N E e.1 = i) ∧ (e.2 ∈ (compF N E)[i] ↔ ofv N E e.2 = i) := fun e he => by
    obtain ⟨r1, r2, r3, r4⟩ := hG.rng e he
    obtain ⟨a, b⟩ := e
    obtain ⟨c, rfl⟩ : ∃ c : Nat, a = c := ⟨a.toNat, by omega⟩
    obtain ⟨d, rfl⟩ : ∃ c : Nat, b = c := ⟨b.toNat, by omega⟩
    exact ⟨mem_comp hG hi (by dsimp only at r2; omega), mem_comp hG hi (by dsimp only at r4; omega)⟩
  constructor
  · rintro ⟨e, he, h⟩
    unfold leaves at h
    simp only [Bool.and_eq_true, decide_eq_true_eq, Bool.not_eq_true', decide_eq_false_iff_not] at h
    obtain ⟨k1, k2⟩ := key e he
    have a1 := k1.1 h.1
    have a2 : ofv N E e.2 ≠ i := fun hh => h.2 (k2.2 hh)
    exact ⟨_, (cond_mem hG).2 ⟨e, he, by omega, rfl⟩, by simp [a1]⟩
  · rintro ⟨p, hp, h⟩
    obtain ⟨e, he, hne, rfl⟩ := (cond_mem hG).1 hp
    obtain ⟨k1, k2⟩ := key e he
    simp only [decide_eq_true_eq] at h
    refine ⟨e, he, ?_⟩
    unfold leaves
    simp only [Bool.and_eq_true, decide_eq_true_eq, Bool.not_eq_true', decide_eq_false_iff_not]
    exact ⟨k1.2 h, fun hh => hne (by have := k2.1 hh; omega)⟩
theorem cond_rmk {N : Nat} {E : List (Int × Int)} : rmkR (compF N E).length (condE N E E) = condR N E := by rw [← makeR_rmkR]; rfl
theorem both_rmk {N : Nat} {E : List (Int × Int)} (hG : Gr N E) (hE : Srt E) : rmkR N (E ++ (rmkR N (E.map flip)).2.1) = ((N : Int), bothE N E, 0) := by
  rw [rev_eq hG hE, ← makeR_rmkR]; exact both_make hG
end Go.Proofs.Ytdjhgcpmipglfaa
