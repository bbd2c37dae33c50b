/- The plain law of heads and tails: each is the greatest of those before and behind. No condition. -/
import Derived.Test.YtnlkffccobdbjaaGreatYWu
import Derived.Test.YtnlkffccobdbjaaGreatYX5
namespace Go.Proofs.YtnlkffccobdbjaaGreat
open Go Go.RowKit Go.Dw
/-- the greatest of some, or zero -/
structure MaxOf (p : Nat → Prop) (v : Nat → Int) (m : Int) : Prop where
  z : 0 ≤ m
  u : ∀ k, p k → v k ≤ m
  a : m = 0 ∨ ∃ k, p k ∧ m = v k
theorem MaxOf.uniq {p : Nat → Prop} {v : Nat → Int} {m m' : Int} (h : MaxOf p v m) (h' : MaxOf p v m') : m = m' := by
  have key : ∀ {m m' : Int}, MaxOf p v m → MaxOf p v m' → m ≤ m' := fun {m m'} h h' => by
    rcases h.a with e | ⟨k, hk, e⟩
    · rw [e]; exact h'.z
    · rw [e]; exact h'.u k hk
  exact Int.le_antisymm (key h h') (key h' h)
theorem MaxOf.congr {p q : Nat → Prop} {v v' : Nat → Int} {m : Int} (h : MaxOf p v m) (e : ∀ k, p k ↔ q k) (ev : ∀ k, p k → v k = v' k) : MaxOf q v' m := by
  refine ⟨h.z, fun k hk => ?_, ?_⟩
  · have := (e k).2 hk
    rw [← ev k this]; exact h.u k this
  · rcases h.a with h0 | ⟨k, hk, h0⟩
    · exact .inl h0
    · exact .inr ⟨k, (e k).1 hk, by rw [← ev k hk]; exact h0⟩
theorem MaxOf.none {p : Nat → Prop} {v : Nat → Int} (h : ∀ k, ¬ p k) : MaxOf p v 0 := ⟨Int.le_refl _, fun k hk => absurd hk (h k), .inl rfl⟩
theorem MaxOf.add {p : Nat → Prop} {v : Nat → Int} {m : Int} (h : MaxOf p v m) (x : Nat) : MaxOf (fun k => p k ∨ k = x) v (max m (v x)) := by
  have hz := h.z
  refine ⟨by omega, fun k hk => ?_, ?_⟩
  · rcases hk with hk | rfl
    · have := h.u k hk; omega
    · omega
  · rcases Int.le_total m (v x) with hle | hle
    · exact .inr ⟨x, .inr rfl, by omega⟩
    · rcases h.a with e | ⟨k, hk, e⟩
      · exact .inl (by omega)
      · exact .inr ⟨k, .inl hk, by omega⟩
/-- is j named in l? -/
def inL (l : List Int) (j : Nat) : Prop := ∃ x ∈ l, x.toNat = j
theorem inL_nil (j : Nat) : ¬ inL [] j := fun ⟨x, h, _⟩ => by cases h
theorem inL_cons {x : Int} {l : List Int} {j : Nat} : inL (x :: l) j ↔ j = x.toNat ∨ inL l j := by
  unfold inL
  constructor
  · rintro ⟨y, hy, rfl⟩
    rcases List.mem_cons.1 hy with rfl | hy
    · exact .inl rfl
    · exact .inr ⟨y, hy, rfl⟩
  · rintro (rfl | ⟨y, hy, e⟩)
    · exact ⟨x, by simp, rfl⟩
    · exact ⟨y, by simp [hy], e⟩
theorem hd_fold {TT : List Tk} {N i : Nat} (hi : i < N) (v : Nat → Int) : ∀ (l : List Int) (H : List Int) (p : Nat → Prop), H.length = N → (∀ x ∈ l, x.toNat ≠ i) → (∀ k, k ≠ i → H.getD k 0 + duA TT k = v k) → MaxOf p v (H.getD i 0) →
    (l.foldl (hdA TT i) H).length = N ∧ (∀ j, j ≠ i → (l.foldl (hdA TT i) H).getD j 0 = H.getD j 0) ∧ MaxOf (fun k => p k ∨ inL l k) v ((l.foldl (hdA TT i) H).getD i 0)
  | [], H, p, hl, _, _, hm => ⟨hl, fun _ _ => rfl, hm.congr (fun k => ⟨.inl, fun h => h.elim id fun h => absurd h (inL_nil k)⟩) fun _ _ => rfl⟩
  | x :: l, H, p, hl, hx, hv, hm => by
    have hxi := hx x (by simp)
    have e1 : ∀ j, j ≠ i → (hdA TT i H x).getD j 0 = H.getD j 0 := fun j hj => by unfold hdA; rw [gSet (by omega), if_neg (by omega)]
    have e2 : (hdA TT i H x).getD i 0 = max (H.getD i 0) (v x.toNat) := by unfold hdA; rw [gSet (by omega), if_pos rfl, hv _ hxi]
    obtain ⟨h1, h2, h3⟩ := hd_fold hi v l (hdA TT i H x) (fun k => p k ∨ k = x.toNat) (by unfold hdA; rw [List.length_set, hl]) (fun y hy => hx y (by simp [hy])) (fun k hk => by rw [e1 k hk]; exact hv k hk) (by rw [e2]; exact hm.add _)
    refine ⟨h1, fun j hj => ?_, h3.congr (fun k => ?_) fun _ _ => rfl⟩
    · show (l.foldl (hdA TT i) (hdA TT i H x)).getD j 0 = _
      rw [h2 j hj, e1 j hj]
    · show (p k ∨ k = x.toNat) ∨ inL l k ↔ p k ∨ inL (x :: l) k
      rw [inL_cons, or_assoc]
theorem rep_get (N j : Nat) : (List.replicate N (0 : Int)).getD j 0 = 0 := by
  rw [List.getD_eq_getElem?_getD, List.getElem?_replicate]
  split <;> rfl
theorem rdy_mem {TT : List Tk} {D : List Nat} {i : Nat} (h : rdyT TT D i = true) : i ∉ D ∧ ∀ x ∈ afA TT i, x.toNat ∈ D := by
  refine ⟨rdy_new h, fun x hx => ?_⟩
  unfold rdyT at h
  rw [Bool.and_eq_true, List.all_eq_true] at h
  simpa using h.2 x hx
theorem heads_inv (TT : List Tk) : ∀ k, ((ordT TT k).foldl (hdS TT) (List.replicate TT.length 0)).length = TT.length ∧
    (∀ j, j ∉ ordT TT k → ((ordT TT k).foldl (hdS TT) (List.replicate TT.length 0)).getD j 0 = 0) ∧
    (∀ j ∈ ordT TT k, ∀ x ∈ afA TT j, x.toNat ∈ ordT TT k) ∧
    ∀ j ∈ ordT TT k, MaxOf (inL (afA TT j)) (fun q => ((ordT TT k).foldl (hdS TT) (List.replicate TT.length 0)).getD q 0 + duA TT q) (((ordT TT k).foldl (hdS TT) (List.replicate TT.length 0)).getD j 0)
  | 0 => ⟨List.length_replicate, fun j _ => rep_get _ _, nofun, nofun⟩
  | k + 1 => by
    have ih := heads_inv TT k
    cases hn : nxtT TT (ordT TT k) with
    | none =>
      have e : ordT TT (k + 1) = ordT TT k := by show (match nxtT TT (ordT TT k) with | some i => ordT TT k ++ [i] | none => ordT TT k) = _; rw [hn]
      rw [e]; exact ih
    | some i =>
      have e : ordT TT (k + 1) = ordT TT k ++ [i] := by show (match nxtT TT (ordT TT k) with | some i => ordT TT k ++ [i] | none => ordT TT k) = _; rw [hn]
      obtain ⟨hi, hr, _⟩ := nxt_some hn
      obtain ⟨hni, haf⟩ := rdy_mem hr
      rw [e, List.foldl_append]
      generalize (ordT TT k).foldl (hdS TT) (List.replicate TT.length 0) = H at ih ⊢
      obtain ⟨i1, i2, i3, i4⟩ := ih
      show (hdS TT H i).length = _ ∧ (∀ j, j ∉ _ → (hdS TT H i).getD j 0 = 0) ∧ _ ∧ ∀ j ∈ _, MaxOf _ (fun q => (hdS TT H i).getD q 0 + duA TT q) ((hdS TT H i).getD j 0)
      have hxi : ∀ x ∈ afA TT i, x.toNat ≠ i := fun x hx h => hni (by rw [← h]; exact haf x hx)
      obtain ⟨h1, h2, h3⟩ := hd_fold (TT := TT) hi (fun q => H.getD q 0 + duA TT q) (afA TT i) H (fun _ => False) i1 hxi (fun _ _ => rfl) (by rw [i2 i hni]; exact MaxOf.none fun _ h => h)
      have hS : hdS TT H i = (afA TT i).foldl (hdA TT i) H := rfl
      rw [hS]
      refine ⟨h1, fun j hj => ?_, fun j hj x hx => ?_, fun j hj => ?_⟩
      · rw [List.mem_append, not_or, List.mem_singleton] at hj
        rw [h2 j hj.2, i2 j hj.1]
      · rcases List.mem_append.1 hj with hj | hj
        · exact List.mem_append_left _ (i3 j hj x hx)
        · rw [List.mem_singleton.1 hj] at hx
          exact List.mem_append_left _ (haf x hx)
      · rcases List.mem_append.1 hj with hj | hj
        · have hji : j ≠ i := fun h => hni (by rw [← h]; exact hj)
          rw [h2 j hji]
          refine (i4 j hj).congr (fun _ => Iff.rfl) fun q hq => ?_
          obtain ⟨x, hx, rfl⟩ := hq
          rw [h2 _ (fun h => hni (by rw [← h]; exact i3 j hj x hx))]
        · rw [List.mem_singleton.1 hj]
          refine h3.congr (fun q => ⟨fun h => h.elim False.elim id, .inr⟩) fun q hq => ?_
          have hq : inL (afA TT i) q := hq.elim False.elim id
          obtain ⟨x, hx, rfl⟩ := hq
          rw [h2 _ (hxi x hx)]
theorem ordF_all {TT : List Tk} (h : TT.length ≤ (ordF TT).length) {i : Nat} (hi : i < TT.length) : i ∈ ordF TT := by
  obtain ⟨h1, h2, _⟩ := ordT_fine TT TT.length
  refine Classical.byContradiction fun hn => ?_
  have := sub_len_of (L := i :: ordF TT) (M := List.range TT.length) (List.nodup_cons.2 ⟨hn, h1⟩) (fun x hx => by
    rcases List.mem_cons.1 hx with rfl | hx
    · exact List.mem_range.2 hi
    · exact List.mem_range.2 (h2 x hx))
  rw [List.length_cons, List.length_range] at this
  omega
def hdV (TT : List Tk) (i : Nat) : Int := (headF TT).getD i 0
def tlV (TT : List Tk) (i : Nat) : Int := (tailsF TT).getD i 0
theorem head_max {TT : List Tk} (h : TT.length ≤ (ordF TT).length) {i : Nat} (hi : i < TT.length) : MaxOf (inL (afA TT i)) (fun q => hdV TT q + duA TT q) (hdV TT i) :=
  (heads_inv TT TT.length).2.2.2 i (ordF_all h hi)
/-! ### tails -/
theorem tl_fold {N i : Nat} : ∀ (l : List Int) (D : List Int), D.length = N → (∀ x ∈ l, x.toNat ≠ i ∧ x.toNat < N) →
    (l.foldl (fun D k => tlA D i k) D).length = N ∧ (l.foldl (fun D k => tlA D i k) D).getD i 0 = D.getD i 0 ∧
    (∀ j, inL l j → (l.foldl (fun D k => tlA D i k) D).getD j 0 = max (D.getD j 0) (D.getD i 0)) ∧ (∀ j, ¬ inL l j → (l.foldl (fun D k => tlA D i k) D).getD j 0 = D.getD j 0)
  | [], D, hl, _ => ⟨hl, rfl, fun j h => absurd h (inL_nil j), fun _ _ => rfl⟩
  | x :: l, D, hl, hx => by
    obtain ⟨x1, x2⟩ := hx x (by simp)
    have e1 : (tlA D i x).getD i 0 = D.getD i 0 := by unfold tlA; rw [gSet (by omega), if_neg x1]
    have e2 : ∀ j, (tlA D i x).getD j 0 = if x.toNat = j then max (D.getD j 0) (D.getD i 0) else D.getD j 0 := fun j => by
      unfold tlA; rw [gSet (by omega)]
      split
      · rename_i h; rw [h]
      · rfl
    obtain ⟨h1, h2, h3, h4⟩ := tl_fold (i := i) l (tlA D i x) (by unfold tlA; rw [List.length_set, hl]) fun y hy => hx y (by simp [hy])
    refine ⟨h1, by rw [← e1]; exact h2, fun j hj => ?_, fun j hj => ?_⟩
    · show (l.foldl (fun D k => tlA D i k) (tlA D i x)).getD j 0 = _
      by_cases hl' : inL l j
      · rw [h3 j hl', e1, e2]
        split
        · omega
        · rfl
      · rw [h4 j hl', e2, if_pos]
        rcases inL_cons.1 hj with h | h
        · exact h.symm
        · exact absurd h hl'
    · rw [inL_cons, not_or] at hj
      show (l.foldl (fun D k => tlA D i k) (tlA D i x)).getD j 0 = _
      rw [h4 j hj.2, e2, if_neg (fun h => hj.1 h.symm)]
theorem tails_inv {TT : List Tk} (hF : Fit TT) : ∀ (Q P : List Nat), P ++ Q = ordF TT →
    ((Q.reverse).foldl (tlS TT) (List.replicate TT.length 0)).length = TT.length ∧
    (∀ j, j < TT.length → j ∈ Q → MaxOf (fun k => k ∈ Q ∧ inL (afA TT k) j) (fun k => ((Q.reverse).foldl (tlS TT) (List.replicate TT.length 0)).getD k 0) (((Q.reverse).foldl (tlS TT) (List.replicate TT.length 0)).getD j 0 - duA TT j)) ∧
    (∀ j, j < TT.length → j ∉ Q → MaxOf (fun k => k ∈ Q ∧ inL (afA TT k) j) (fun k => ((Q.reverse).foldl (tlS TT) (List.replicate TT.length 0)).getD k 0) (((Q.reverse).foldl (tlS TT) (List.replicate TT.length 0)).getD j 0))
  | [], P, _ => ⟨List.length_replicate, fun _ _ h => (by cases h), fun j _ _ => by rw [List.reverse_nil, List.foldl_nil, rep_get]; exact MaxOf.none fun k h => by cases h.1⟩
  | i :: Q, P, hPQ => by
    have ih := tails_inv hF Q (P ++ [i]) (by rw [List.append_assoc]; exact hPQ)
    have hnd : (P ++ i :: Q).Nodup := by rw [hPQ]; exact (ordT_fine TT TT.length).1
    have hiT : i < TT.length := ordF_lt i (by rw [← hPQ]; simp)
    have hrd : ∀ x ∈ afA TT i, x.toNat ∈ P := by
      have hp : P.length < (ordF TT).length := by rw [← hPQ]; simp
      have := ord_rdy TT TT.length P.length hp
      have e1 : (ordT TT TT.length).take P.length = P := by
        show (ordF TT).take P.length = P
        rw [← hPQ, List.take_left]
      have e2 : (ordT TT TT.length)[P.length]'hp = i := by
        have : (ordF TT)[P.length]? = some i := by rw [← hPQ]; simp
        rw [List.getElem?_eq_getElem hp] at this
        exact Option.some.inj this
      rw [e1, e2] at this
      exact (rdy_mem this).2
    rw [List.nodup_append] at hnd
    obtain ⟨_, hnd2, hnd3⟩ := hnd
    have hiQ : i ∉ Q := (List.nodup_cons.1 hnd2).1
    have hxi : ∀ x ∈ afA TT i, x.toNat ≠ i ∧ x.toNat < TT.length := fun x hx => ⟨fun h => hnd3 _ (hrd x hx) i (by simp) h, by have := hF.a hiT x hx; omega⟩
    have hxQ : ∀ k ∈ Q, ¬ inL (afA TT i) k := fun k hk ⟨x, hx, e⟩ => hnd3 _ (hrd x hx) k (by simp [hk]) e
    have hii : ¬ inL (afA TT i) i := fun ⟨x, hx, e⟩ => (hxi x hx).1 e
    rw [List.reverse_cons, List.foldl_append]
    generalize (Q.reverse).foldl (tlS TT) (List.replicate TT.length 0) = D at ih ⊢
    obtain ⟨i1, i2, i3⟩ := ih
    have e1 : ∀ j, (D.set i (D.getD i 0 + duA TT i)).getD j 0 = if i = j then D.getD i 0 + duA TT i else D.getD j 0 := fun j => gSet (by omega)
    obtain ⟨h1, h2, h3, h4⟩ := tl_fold (i := i) (afA TT i) (D.set i (D.getD i 0 + duA TT i)) (by rw [List.length_set, i1]) hxi
    rw [e1 i, if_pos rfl] at h2
    have hS : [i].foldl (tlS TT) D = (afA TT i).foldl (fun D k => tlA D i k) (D.set i (D.getD i 0 + duA TT i)) := rfl
    rw [hS]
    generalize (afA TT i).foldl (fun D k => tlA D i k) (D.set i (D.getD i 0 + duA TT i)) = E at *
    have eQ : ∀ k ∈ Q, E.getD k 0 = D.getD k 0 := fun k hk => by rw [h4 k (hxQ k hk), e1, if_neg (fun h => hiQ (by rw [h]; exact hk))]
    have same : ∀ {m : Int} {j : Nat}, ¬ inL (afA TT i) j → MaxOf (fun k => k ∈ Q ∧ inL (afA TT k) j) (fun k => D.getD k 0) m → MaxOf (fun k => k ∈ i :: Q ∧ inL (afA TT k) j) (fun k => E.getD k 0) m := fun {m j} hn hm =>
      hm.congr (fun k => ⟨fun h => ⟨List.mem_cons_of_mem _ h.1, h.2⟩, fun h => ⟨(List.mem_cons.1 h.1).elim (fun e => absurd (by rw [← e]; exact h.2) hn) id, h.2⟩⟩) fun k hk => (eQ k hk.1).symm
    refine ⟨h1, fun j hj hjQ => ?_, fun j hj hjQ => ?_⟩
    · rcases List.mem_cons.1 hjQ with rfl | hjQ
      · rw [h2, show D.getD j 0 + duA TT j - duA TT j = D.getD j 0 by omega]
        exact same hii (i3 j hj hiQ)
      · rw [eQ j hjQ]
        exact same (hxQ j hjQ) (i2 j hj hjQ)
    · rw [List.mem_cons, not_or] at hjQ
      by_cases hin : inL (afA TT i) j
      · rw [h3 j hin, e1 j, if_neg (fun h => hjQ.1 h.symm), e1 i, if_pos rfl, ← h2]
        have h5 : MaxOf (fun k => k ∈ Q ∧ inL (afA TT k) j) (fun k => E.getD k 0) (D.getD j 0) := (i3 j hj hjQ.2).congr (fun _ => Iff.rfl) fun k hk => (eQ k hk.1).symm
        refine (h5.add i).congr (fun k => ?_) fun _ _ => rfl
        constructor
        · rintro (h | rfl)
          · exact ⟨List.mem_cons_of_mem _ h.1, h.2⟩
          · exact ⟨by simp, hin⟩
        · rintro ⟨h, h'⟩
          rcases List.mem_cons.1 h with h | h
          · exact .inr h
          · exact .inl ⟨h, h'⟩
      · rw [h4 j hin, e1, if_neg (fun h => hjQ.1 h.symm)]
        exact same hin (i3 j hj hjQ.2)
theorem tail_max {TT : List Tk} (hF : Fit TT) (h : TT.length ≤ (ordF TT).length) {i : Nat} (hi : i < TT.length) : MaxOf (fun k => k < TT.length ∧ inL (afA TT k) i) (tlV TT) (tlV TT i - duA TT i) :=
  ((tails_inv hF (ordF TT) [] rfl).2.1 i hi (ordF_all h hi)).congr (fun k => ⟨fun hk => ⟨ordF_lt k hk.1, hk.2⟩, fun hk => ⟨ordF_all h hk.1, hk.2⟩⟩) fun _ _ => rfl
theorem rest_inv (TT : List Tk) : ∀ (Q : List Nat) (R : List Int), (∀ x ∈ Q, x < R.length) → ∀ j, (Q.foldl (rsS TT) R).getD j 0 = if j ∈ Q then tlV TT j - duA TT j else R.getD j 0
  | [], R, _, j => by simp
  | i :: Q, R, h, j => by
    show (Q.foldl (rsS TT) (rsS TT R i)).getD j 0 = _
    have hi := h i (by simp)
    rw [rest_inv TT Q (rsS TT R i) (fun x hx => by unfold rsS; rw [List.length_set]; exact h x (by simp [hx])) j]
    unfold rsS
    rw [gSet hi]
    by_cases hj : j ∈ Q
    · rw [if_pos hj, if_pos (by simp [hj])]
    · rw [if_neg hj]
      by_cases hij : i = j
      · subst hij; rw [if_pos rfl, if_pos (by simp)]; rfl
      · rw [if_neg hij, if_neg (by simp [hj, Ne.symm hij])]
theorem rest_eq {TT : List Tk} (h : TT.length ≤ (ordF TT).length) {i : Nat} (hi : i < TT.length) : (restF TT).getD i 0 = tlV TT i - duA TT i := by
  unfold restF
  rw [rest_inv TT (ordF TT) _ (fun x hx => by rw [List.length_replicate]; exact ordF_lt x hx), if_pos (ordF_all h hi)]
/-- before what comes behind -/
def rkV (TT : List Tk) (i : Nat) : Nat := (ordF TT).idxOf i
theorem rk_lt {TT : List Tk} (h : TT.length ≤ (ordF TT).length) {i : Nat} (hi : i < TT.length) {x : Int} (hx : x ∈ afA TT i) : rkV TT x.toNat < rkV TT i := by
  have hm := ordF_all h hi
  have hp : (ordF TT).idxOf i < (ordF TT).length := List.idxOf_lt_length_of_mem hm
  have h1 := ord_rdy TT TT.length ((ordF TT).idxOf i) hp
  have e2 : (ordT TT TT.length)[(ordF TT).idxOf i]'hp = i := List.getElem_idxOf hp
  rw [e2] at h1
  have h2 := (rdy_mem h1).2 x hx
  obtain ⟨k, hk, e⟩ := List.mem_iff_getElem.1 h2
  rw [List.length_take] at hk
  rw [List.getElem_take] at e
  have hk' : k < (ordF TT).length := by show k < (ordT TT TT.length).length; omega
  have e3 : (ordF TT)[k]'hk' = x.toNat := e
  have hn : (ordF TT).Nodup := (ordT_fine TT TT.length).1
  have e4 : (ordF TT).idxOf ((ordF TT)[k]'hk') = k := hn.idxOf_getElem k hk'
  rw [e3] at e4
  unfold rkV
  omega
theorem rk_bd {TT : List Tk} (h : TT.length ≤ (ordF TT).length) {i : Nat} (hi : i < TT.length) : rkV TT i < TT.length := by
  have hp : (ordF TT).idxOf i < (ordF TT).length := List.idxOf_lt_length_of_mem (ordF_all h hi)
  have := ordF_le TT
  unfold rkV
  omega
end Go.Proofs.YtnlkffccobdbjaaGreat
