/- The plain law of sinks: the classes of a graph, the edges between them, and a sink in each closed set. No condition of its own. -/
import Derived.Test.YtdjhgcpmipglfaaYP4
namespace Go.Proofs.Ytdjhgcpmipglfaa
open Go Go.RowKit Go.Dw
theorem idxBy_get {α : Type} {p : α → Bool} : ∀ {L : List α} {k : Nat}, idxBy p L = k → ∃ h : k < L.length, p L[k] = true
  | [], k, h => by simp [idxBy] at h
  | y :: r, k, h => by
    unfold idxBy at h
    by_cases hy : p y = true
    · rw [if_pos hy] at h
      have : k = 0 := by omega
      subst this
      exact ⟨by simp, hy⟩
    · rw [if_neg hy] at h
      have hg := idxBy_ge p r
      split at h
      · omega
      · obtain ⟨m, hm⟩ : ∃ m : Nat, idxBy p r = m := ⟨(idxBy p r).toNat, by omega⟩
        obtain ⟨h1, h2⟩ := idxBy_get hm
        have : k = m + 1 := by omega
        subst this
        exact ⟨by simp; exact h1, h2⟩
/-- the class of a node, as a place among the least ones -/
theorem of_get {N : Nat} {E : List (Int × Int)} (hG : Gr N E) {v : Nat} (hv : v < N) : ∃ k : Nat, ofv N E v = k ∧ ∃ h : k < (reps N E N).length, eqv N E (reps N E N)[k] v = true := by
  have he : ofv N E v = ofK N E N v := by unfold ofv ofF; simp [List.getD, hv]
  obtain ⟨r, h1, h2, h3⟩ := least_of hG v hv
  have hr : r ∈ reps N E N := by unfold reps; simp [h2]; omega
  have hn : ¬ ofK N E N v < 0 := fun hneg => by
    have := ofK_neg.1 hneg r hr
    rw [h3] at this; cases this
  obtain ⟨k, hk⟩ : ∃ k : Nat, ofK N E N v = k := ⟨(ofK N E N v).toNat, by omega⟩
  obtain ⟨h4, h5⟩ := idxBy_get (show idxBy (fun r => eqv N E r v) (reps N E N) = k from hk)
  exact ⟨k, he.trans hk, h4, h5⟩
theorem of_eq {N : Nat} {E : List (Int × Int)} (hG : Gr N E) {u v : Nat} (hu : u < N) (hv : v < N) : ofv N E u = ofv N E v ↔ eqv N E u v = true := by
  constructor
  · intro h
    obtain ⟨k, h1, h2, h3⟩ := of_get hG hu
    obtain ⟨m, h4, h5, h6⟩ := of_get hG hv
    have : k = m := by omega
    subst this
    have hk := (reps_lt (List.getElem_mem h2)).1
    exact eqv_trans hG hu hk hv (by rw [eqv_symm]; exact h3) h6
  · intro h
    have he : ∀ w : Nat, w < N → ofv N E w = ofK N E N w := fun w hw => by unfold ofv ofF; simp [List.getD, hw]
    rw [he u hu, he v hv]
    unfold ofK
    have : ∀ L : List Nat, (∀ r ∈ L, r < N) → idxBy (fun r => eqv N E r u) L = idxBy (fun r => eqv N E r v) L := by
      intro L
      induction L with
      | nil => intro _; rfl
      | cons x r ih =>
        intro hL
        have hx := hL x (by simp)
        have e : eqv N E x u = eqv N E x v := by
          rw [Bool.eq_iff_iff]
          exact ⟨fun k => eqv_trans hG hx hu hv k h, fun k => eqv_trans hG hx hv hu k (by rw [eqv_symm]; exact h)⟩
        simp only [idxBy, e]
        rw [ih fun r hr => hL r (by simp [hr])]
    exact this _ fun r hr => (reps_lt hr).1
theorem dd_mem' {L : List (Int × Int)} {x : Int × Int} : x ∈ dd (sortF L) ↔ x ∈ L := by rw [dd_mem, sortF_mem]
theorem comp_len (N : Nat) (E : List (Int × Int)) : (compF N E).length = (reps N E N).length := by unfold compF; rw [List.length_map]
theorem ofv_rng {N : Nat} {E : List (Int × Int)} (hG : Gr N E) {x : Int} (hx : 0 ≤ x ∧ x < N) : 0 ≤ ofv N E x ∧ ofv N E x < (compF N E).length := by
  obtain ⟨v, rfl⟩ : ∃ v : Nat, x = v := ⟨x.toNat, by omega⟩
  obtain ⟨k, h1, h2, _⟩ := of_get hG (v := v) (by omega)
  rw [comp_len]; omega
theorem condE_mem {N : Nat} {E : List (Int × Int)} {p : Int × Int} : p ∈ condE N E E ↔ ∃ e ∈ E, ofv N E e.1 ≠ ofv N E e.2 ∧ p = (ofv N E e.1, ofv N E e.2) := by
  unfold condE
  simp only [List.mem_map, List.mem_filter, decide_eq_true_eq]
  constructor
  · rintro ⟨e, ⟨h1, h2⟩, rfl⟩; exact ⟨e, h1, h2, rfl⟩
  · rintro ⟨e, h1, h2, rfl⟩; exact ⟨e, ⟨h1, h2⟩, rfl⟩
theorem cond_eq {N : Nat} {E : List (Int × Int)} (hG : Gr N E) : condR N E = (((compF N E).length : Int), dd (sortF (condE N E E)), 0) := by
  have hN := hG.hN
  have hl : (compF N E).length ≤ 64 := by rw [comp_len]; have := reps_len N E N; omega
  unfold condR makeR
  rw [if_neg (by omega), if_neg]
  rw [Bool.not_eq_true, List.any_eq_false]
  intro p hp
  obtain ⟨e, he, _, rfl⟩ := condE_mem.1 hp
  obtain ⟨r1, r2, r3, r4⟩ := hG.rng e he
  have h1 := ofv_rng hG (x := e.1) ⟨r1, r2⟩
  have h2 := ofv_rng hG (x := e.2) ⟨r3, r4⟩
  simp [outF, beyondF]
  omega
theorem cond_mem {N : Nat} {E : List (Int × Int)} (hG : Gr N E) {p : Int × Int} : p ∈ (condR N E).2.1 ↔ ∃ e ∈ E, ofv N E e.1 ≠ ofv N E e.2 ∧ p = (ofv N E e.1, ofv N E e.2) := by
  rw [cond_eq hG]
  exact dd_mem'.trans condE_mem

theorem rea_mem {N : Nat} {E : List (Int × Int)} (hG : Gr N E) {L : List Int} (hL : ∀ x ∈ L, 0 ≤ x ∧ x < N) {y : Int} : y ∈ reaK N E L N ↔ ∃ x ∈ L, ∃ s, wlk E s x y = true := by
  unfold reaK
  rw [mem_cast]
  constructor
  · rintro ⟨v, h1, h2, rfl⟩
    exact (isR_iff hG hL).1 h2
  · rintro ⟨x, hx, s, hw⟩
    have := wlk_rng hG (hL x hx) hw
    obtain ⟨v, rfl⟩ : ∃ v : Nat, y = v := ⟨y.toNat, by omega⟩
    exact ⟨v, by omega, (isR_iff hG hL).2 ⟨x, hx, s, hw⟩, rfl⟩
theorem rea_rng {N : Nat} {E : List (Int × Int)} {L : List Int} {y : Int} (h : y ∈ reaK N E L N) : 0 ≤ y ∧ y < N := by
  obtain ⟨v, h1, _, rfl⟩ := mem_cast.1 h; omega
theorem rea_leaves {N : Nat} {E : List (Int × Int)} (hG : Gr N E) {L : List Int} (hL : ∀ x ∈ L, 0 ≤ x ∧ x < N) : E.any (leaves (reaK N E L N)) = false := by
  rw [List.any_eq_false]
  intro e he
  unfold leaves
  simp only [Bool.and_eq_true, decide_eq_true_eq, Bool.not_eq_true', decide_eq_false_iff_not]
  rintro ⟨h1, h2⟩
  obtain ⟨x, hx, s, hw⟩ := (rea_mem hG hL).1 h1
  exact h2 ((rea_mem hG hL).2 ⟨x, hx, s + 1, wlk_succ.2 ⟨e.1, he, hw⟩⟩)
theorem ready_cast {N : Nat} {E : List (Int × Int)} (h0 : checkF N E = 0) (p : Nat → Bool) : readyF N E (((List.range N).filter p).map fun v : Nat => (v : Int)) = 0 := by
  unfold readyF
  have ha : ascF (((List.range N).filter p).map fun v : Nat => (v : Int)) = true := asc_of (cast_asc N _)
  rw [if_neg (by rw [h0]; simp), if_neg, if_pos ha]
  rw [Bool.not_eq_true, List.any_eq_false]
  intro x hx
  obtain ⟨v, h1, _, rfl⟩ := mem_cast.1 hx
  simp [beyondF]; omega
theorem own_eq {N : Nat} {E : List (Int × Int)} (hG : Gr N E) (u : Int) : (!E.any (leaves (chsK u N))) = decide (reaK N E (chsK u N) N = chsK u N) := by
  rw [closed_eq hG]
  have hin : ∀ v ∈ List.range N, bitF u v = true → isR N E (chsK u N) v = true := fun v hv hb =>
    (isR_iff hG fun x hx => chs_rng hx).2 ⟨v, mem_cast.2 ⟨v, List.mem_range.1 hv, hb, rfl⟩, 0, by simp [wlk]⟩
  refine decide_eq_decide.2 ⟨fun h => ?_, fun h => by rw [h]⟩
  unfold reaK chsK at h ⊢
  rw [List.length_map, List.length_map] at h
  have k := (filter_len hin).1 h
  congr 1
  exact List.filter_congr fun v hv => Bool.eq_iff_iff.2 ⟨k v hv, hin v hv⟩
/-- the number of nodes that a node reaches -/
def rnum (N : Nat) (E : List (Int × Int)) (v : Int) : Nat := ((List.range N).filter fun b : Nat => rch N E v b).length
theorem min_ex {α : Type} (f : α → Nat) : ∀ {L : List α}, L ≠ [] → ∃ x ∈ L, ∀ y ∈ L, f x ≤ f y
  | [], h => absurd rfl h
  | x :: r, _ => by
    by_cases hr : r = []
    · subst hr; exact ⟨x, by simp, fun y hy => by simp at hy; subst hy; exact Nat.le_refl _⟩
    · obtain ⟨m, hm, h⟩ := min_ex f hr
      by_cases hx : f x ≤ f m
      · refine ⟨x, by simp, fun y hy => ?_⟩
        rcases List.mem_cons.1 hy with rfl | hy
        · exact Nat.le_refl _
        · exact Nat.le_trans hx (h y hy)
      · refine ⟨m, by simp [hm], fun y hy => ?_⟩
        rcases List.mem_cons.1 hy with rfl | hy
        · omega
        · exact h y hy
theorem rnum_back {N : Nat} {E : List (Int × Int)} (hG : Gr N E) {u v : Nat} (hu : u < N) (hv : v < N) (h : rch N E u v = true) (hn : rnum N E u ≤ rnum N E v) : rch N E v u = true := by
  have hin : ∀ b ∈ List.range N, rch N E v b = true → rch N E u b = true := fun b _ h1 => rch_trans hG hu hv h h1
  have h1 : ((List.range N).filter fun b : Nat => rch N E v b).length ≤ ((List.range N).filter fun b : Nat => rch N E u b).length := by
    have := List.Sublist.length_le (List.filter_sublist (l := (List.range N).filter fun b : Nat => rch N E u b) (p := fun b : Nat => rch N E v b))
    rw [List.filter_filter] at this
    have e : (List.range N).filter (fun b : Nat => rch N E v b && rch N E u b) = (List.range N).filter fun b : Nat => rch N E v b := List.filter_congr fun b hb => by
      cases hc : rch N E v b with
      | false => rfl
      | true => rw [hin b hb hc]; rfl
    rw [e] at this
    exact this
  have k := (filter_len hin).1 (Nat.le_antisymm hn h1)
  exact k u (List.mem_range.2 hu) (rch_refl hG hu)
/-- a set that no edge leaves holds a class that no edge leaves -/
theorem sink_in {N : Nat} {E : List (Int × Int)} (hG : Gr N E) {R : List Int} (hR : ∀ x ∈ R, 0 ≤ x ∧ x < N) (hc : E.any (leaves R) = false) (hne : R ≠ []) :
    ∃ s ∈ sinkF N E, s ≠ [] ∧ ∀ x ∈ s, x ∈ R := by
  obtain ⟨x, hx, hmin⟩ := min_ex (rnum N E) hne
  have hxr := hR x hx
  obtain ⟨v, rfl⟩ : ∃ v : Nat, x = v := ⟨x.toNat, by omega⟩
  have hv : v < N := by omega
  obtain ⟨k, h1, h2, h3⟩ := of_get hG hv
  have hkN := (reps_lt (List.getElem_mem h2)).1
  have hget : (compF N E).getD k [] = cls N E (reps N E N)[k] := by
    unfold compF; simp [List.getD, h2]
  refine ⟨cls N E (reps N E N)[k], ?_, ?_, ?_⟩
  · unfold sinkF sinkK
    refine List.mem_map.2 ⟨k, List.mem_filter.2 ⟨List.mem_range.2 (by rw [comp_len]; exact h2), ?_⟩, hget⟩
    unfold isSink
    rw [Bool.not_eq_true', List.any_eq_false]
    intro p hp
    obtain ⟨e, he, hne', rfl⟩ := (cond_mem hG).1 hp
    simp only [decide_eq_true_eq]
    intro hk
    obtain ⟨r1, r2, r3, r4⟩ := hG.rng e he
    obtain ⟨a, b⟩ := e
    obtain ⟨c, rfl⟩ : ∃ c : Nat, a = c := ⟨a.toNat, by omega⟩
    obtain ⟨d, rfl⟩ : ∃ c : Nat, b = c := ⟨b.toNat, by omega⟩
    dsimp only at *
    have hcN : c < N := by omega
    have hdN : d < N := by omega
    have hvc := (of_eq hG hv hcN).1 (by omega)
    unfold eqv at hvc
    simp only [Bool.and_eq_true] at hvc
    have hcd : rch N E c d = true := (rch_iff hG (by omega)).2 ⟨1, wlk_succ.2 ⟨c, he, by simp [wlk]⟩⟩
    have hvd := rch_trans hG hv hcN hvc.1 hcd
    obtain ⟨s, hs⟩ := (rch_iff hG (by omega)).1 hvd
    have hdR := wlk_closed hc hx hs
    have hdv := rnum_back hG hv hdN hvd (hmin d hdR)
    exact hne' ((of_eq hG hcN hdN).2 (by unfold eqv; rw [hcd, rch_trans hG hdN hv hdv hvc.1]; rfl))
  · have : ((reps N E N)[k] : Int) ∈ cls N E (reps N E N)[k] := mem_cast.2 ⟨_, hkN, eqv_refl hG hkN, rfl⟩
    intro e; rw [e] at this; simp at this
  · intro y hy
    obtain ⟨w, hw, hm, rfl⟩ := mem_cast.1 hy
    have : eqv N E v w = true := eqv_trans hG hv hkN hw (by rw [eqv_symm]; exact h3) hm
    unfold eqv at this
    simp only [Bool.and_eq_true] at this
    obtain ⟨s, hs⟩ := (rch_iff hG (by omega)).1 this.1
    exact wlk_closed hc hx hs
theorem sink_any {N : Nat} {E : List (Int × Int)} (hG : Gr N E) {L : List Int} (hL : ∀ x ∈ L, 0 ≤ x ∧ x < N) :
    ((sinkF N E).any fun s => ((decide ((0 : Int) < (s.length : Int))) && !(s.any fun v => !decide (v ∈ reaK N E L N)))) = decide ((0 : Int) < ((reaK N E L N).length : Int)) := by
  rw [Bool.eq_iff_iff, List.any_eq_true, decide_eq_true_eq]
  constructor
  · rintro ⟨s, _, h⟩
    simp only [Bool.and_eq_true, decide_eq_true_eq, Bool.not_eq_true', List.any_eq_false] at h
    obtain ⟨h1, h2⟩ := h
    match s, h1, h2 with
    | x :: r, _, h2 =>
      have := h2 x (by simp)
      simp only [decide_eq_false_iff_not, Classical.not_not] at this
      have := List.length_pos_of_mem this
      omega
  · intro h
    obtain ⟨s, h1, h2, h3⟩ := sink_in hG (fun x hx => rea_rng hx) (rea_leaves hG hL) (by intro e; rw [e] at h; simp at h)
    refine ⟨s, h1, ?_⟩
    simp only [Bool.and_eq_true, decide_eq_true_eq, Bool.not_eq_true', List.any_eq_false]
    refine ⟨by have := List.length_pos_iff.2 h2; omega, fun x hx => ?_⟩
    have := h3 x hx
    simp [this]
end Go.Proofs.Ytdjhgcpmipglfaa
