/- The plain law of reaching: what is reached, and which sets are closed. No condition of its own. -/
import Derived.Test.YtdjhgcpmipglfaaYP2
import Derived.Test.YtdjhgcpmipglfaaYLa
import Derived.Test.YtdjhgcpmipglfaaYGn
namespace Go.Proofs.Ytdjhgcpmipglfaa
open Go Go.RowKit Go.Dw
theorem isSome_dz {o : Option Nat} : o.isSome = decide (0 ≤ dz o) := by
  cases o with
  | none => rfl
  | some s => simp [dz]
theorem lst_rchL (N : Nat) (E : List (Int × Int)) (L : List Int) : lst (rchL N E L) = reaK N E L N := by
  unfold lst reaK
  have hl : (rchL N E L).length = N := by simp [rchL]
  rw [hl]
  congr 1
  refine List.filter_congr fun b hb => ?_
  have hbN := List.mem_range.1 hb
  have : (rchL N E L).getD b false = L.any fun a => rch N E a b := by
    unfold rchL
    simp [List.getD, hbN]
  rw [this]
  unfold isR
  congr 1
  funext a
  unfold rch
  exact isSome_dz
theorem closR_eq {N : Nat} {E : List (Int × Int)} : (cloF N E).map lst = (List.range N).map fun x : Nat => reaK N E [(x : Int)] N := by
  unfold cloF
  rw [List.map_map]
  refine List.map_congr_left fun x _ => ?_
  exact lst_rchL N E [(x : Int)]
theorem mem_cast {N : Nat} {p : Nat → Bool} {x : Int} : x ∈ ((List.range N).filter p).map (fun v : Nat => (v : Int)) ↔ ∃ v : Nat, v < N ∧ p v = true ∧ x = v := by
  simp only [List.mem_map, List.mem_filter, List.mem_range]
  constructor
  · rintro ⟨v, ⟨h1, h2⟩, rfl⟩; exact ⟨v, h1, h2, rfl⟩
  · rintro ⟨v, h1, h2, rfl⟩; exact ⟨v, ⟨h1, h2⟩, rfl⟩
theorem chs_rng {u : Int} {N : Nat} {x : Int} (h : x ∈ chsK u N) : 0 ≤ x ∧ x < N := by
  obtain ⟨v, h1, _, rfl⟩ := mem_cast.1 h; omega
theorem asc_of {L : List Int} (h : L.Pairwise (· < ·)) : ascF L = true := by
  unfold ascF
  rw [List.all_eq_true]
  intro i hi
  have hi' : i + 1 < L.length := by have := List.mem_range.1 hi; omega
  have e1 : L.getD i 0 = L[i] := by simp [List.getD, show i < L.length by omega]
  have e2 : L.getD (i + 1) 0 = L[i + 1] := by simp [List.getD, hi']
  have := List.pairwise_iff_getElem.1 h i (i + 1) (by omega) hi' (by omega)
  rw [e1, e2]
  simp only [decide_eq_true_eq]
  omega
theorem cast_asc (N : Nat) (p : Nat → Bool) : (((List.range N).filter p).map fun v : Nat => (v : Int)).Pairwise (· < ·) := by
  rw [List.pairwise_map]
  refine List.Pairwise.filter _ (List.Pairwise.imp (fun {x y} h => ?_) (pw_range N))
  omega
theorem ready_chs {N : Nat} {E : List (Int × Int)} (h0 : checkF N E = 0) (u : Int) : readyF N E (chsK u N) = 0 := by
  unfold readyF
  have ha : ascF (chsK u N) = true := asc_of (cast_asc N _)
  rw [if_neg (by rw [h0]; simp), if_neg, if_pos ha]
  rw [Bool.not_eq_true, List.any_eq_false]
  intro x hx
  have := chs_rng hx
  simp [beyondF]; omega
theorem filter_len {α : Type} {p q : α → Bool} : ∀ {l : List α}, (∀ v ∈ l, p v = true → q v = true) → ((l.filter q).length = (l.filter p).length ↔ ∀ v ∈ l, q v = true → p v = true)
  | [], _ => by simp
  | x :: l, h => by
    have ih := filter_len (l := l) fun v hv => h v (List.mem_cons_of_mem _ hv)
    have hle : (l.filter p).length ≤ (l.filter q).length := by
      have : ∀ {l : List α}, (∀ v ∈ l, p v = true → q v = true) → (l.filter p).length ≤ (l.filter q).length := by
        intro l h
        induction l with
        | nil => simp
        | cons y l ih =>
          have ih' := ih fun v hv => h v (List.mem_cons_of_mem _ hv)
          rw [List.filter_cons, List.filter_cons]
          cases hp : p y with
          | true => rw [h y (by simp) hp]; simp; exact ih'
          | false =>
            rw [if_neg Bool.false_ne_true]
            split
            · rw [List.length_cons]; omega
            · exact ih'
      exact this fun v hv => h v (List.mem_cons_of_mem _ hv)
    rw [List.filter_cons, List.filter_cons]
    cases hp : p x with
    | true =>
      have hq := h x (by simp) hp
      rw [hq, if_pos rfl, if_pos rfl, List.length_cons, List.length_cons, Nat.add_right_cancel_iff, ih]
      constructor
      · intro k v hv hqv
        rcases List.mem_cons.1 hv with rfl | hv
        · exact hp
        · exact k v hv hqv
      · intro k v hv hqv; exact k v (List.mem_cons_of_mem _ hv) hqv
    | false =>
      rw [if_neg Bool.false_ne_true]
      cases hq : q x with
      | true =>
        rw [if_pos rfl, List.length_cons]
        constructor
        · intro k; omega
        · intro k; have := k x (by simp) hq; rw [hp] at this; cases this
      | false =>
        rw [if_neg Bool.false_ne_true, ih]
        constructor
        · intro k v hv hqv
          rcases List.mem_cons.1 hv with rfl | hv
          · rw [hq] at hqv; cases hqv
          · exact k v hv hqv
        · intro k v hv hqv; exact k v (List.mem_cons_of_mem _ hv) hqv
theorem wlk_closed {E : List (Int × Int)} {L : List Int} (hc : E.any (leaves L) = false) {x : Int} (hx : x ∈ L) : ∀ {s : Nat} {y : Int}, wlk E s x y = true → y ∈ L
  | 0, y, h => by simp only [wlk, beq_iff_eq] at h; exact h ▸ hx
  | s + 1, y, h => by
    obtain ⟨z, h1, h2⟩ := wlk_succ.1 h
    have hz := wlk_closed hc hx h2
    have := List.any_eq_false.1 hc _ h1
    unfold leaves at this
    simp only [Bool.and_eq_true, decide_eq_true_eq, Bool.not_eq_true', decide_eq_false_iff_not] at this
    exact Classical.byContradiction fun hn => this ⟨hz, hn⟩
theorem isR_iff {N : Nat} {E : List (Int × Int)} (hG : Gr N E) {L : List Int} (hL : ∀ x ∈ L, 0 ≤ x ∧ x < N) {b : Nat} : isR N E L b = true ↔ ∃ x ∈ L, ∃ s, wlk E s x b = true := by
  unfold isR
  simp only [List.any_eq_true, decide_eq_true_eq]
  constructor
  · rintro ⟨x, hx, h⟩
    refine ⟨x, hx, ?_⟩
    cases hd : dst N E x b with
    | none => rw [hd] at h; simp [dz] at h
    | some s => exact ⟨s, (dst_some hd).2.1⟩
  · rintro ⟨x, hx, h⟩
    refine ⟨x, hx, ?_⟩
    have := (rch_iff hG (hL x hx)).2 h
    unfold rch at this
    rw [isSome_dz, decide_eq_true_eq] at this
    exact this
theorem closed_eq {N : Nat} {E : List (Int × Int)} (hG : Gr N E) (u : Int) : (!E.any (leaves (chsK u N))) = decide ((reaK N E (chsK u N) N).length = (chsK u N).length) := by
  have hin : ∀ v ∈ List.range N, bitF u v = true → isR N E (chsK u N) v = true := fun v hv hb =>
    (isR_iff hG fun x hx => chs_rng hx).2 ⟨v, mem_cast.2 ⟨v, List.mem_range.1 hv, hb, rfl⟩, 0, by simp [wlk]⟩
  have key := filter_len hin
  have e : (reaK N E (chsK u N) N).length = (chsK u N).length ↔ ∀ v ∈ List.range N, isR N E (chsK u N) v = true → bitF u v = true := by
    rw [← key]; unfold reaK chsK; rw [List.length_map, List.length_map]
  rw [Bool.eq_iff_iff, decide_eq_true_eq, e, Bool.not_eq_true']
  constructor
  · intro hc v hv hr
    obtain ⟨x, hx, s, hw⟩ := (isR_iff hG fun x hx => chs_rng hx).1 hr
    obtain ⟨v', _, hb, he⟩ := mem_cast.1 (wlk_closed hc hx hw)
    have : v = v' := by omega
    rw [this]; exact hb
  · intro h
    rw [List.any_eq_false]
    intro e he
    unfold leaves
    simp only [Bool.and_eq_true, decide_eq_true_eq, Bool.not_eq_true', decide_eq_false_iff_not]
    rintro ⟨h1, h2⟩
    have hr := hG.rng _ he
    obtain ⟨v, hv⟩ : ∃ v : Nat, e.2 = v := ⟨_, (Int.toNat_of_nonneg hr.2.2.1).symm⟩
    have := h v (List.mem_range.2 (by omega)) ((isR_iff hG fun x hx => chs_rng hx).2 ⟨e.1, h1, 1, wlk_succ.2 ⟨e.1, by rw [← hv]; exact he, by simp [wlk]⟩⟩)
    exact h2 (mem_cast.2 ⟨v, by omega, this, hv⟩)
end Go.Proofs.Ytdjhgcpmipglfaa
