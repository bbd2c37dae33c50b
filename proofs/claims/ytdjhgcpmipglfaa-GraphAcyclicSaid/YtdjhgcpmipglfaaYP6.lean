/- The plain law of orders and cycles: an order exactly if no cycle; a cycle is one; the classes' graph has none. No condition of its own. -/
import Derived.Test.YtdjhgcpmipglfaaYP5
import Derived.Test.YtdjhgcpmipglfaaYP3
import Derived.Test.YtdjhgcpmipglfaaYGo
namespace Go.Proofs.Ytdjhgcpmipglfaa
open Go Go.RowKit Go.Dw
theorem sub_len : ∀ {A B : List Int}, A.Nodup → (∀ x ∈ A, x ∈ B) → A.length ≤ B.length
  | [], _, _, _ => Nat.zero_le _
  | x :: r, B, hn, h => by
    obtain ⟨B1, B2, rfl⟩ := List.append_of_mem (h x (by simp))
    have hn' := List.nodup_cons.1 hn
    have := sub_len (A := r) (B := B1 ++ B2) hn'.2 fun y hy => by
      have h1 := h y (by simp [hy])
      have h2 : y ≠ x := fun e => hn'.1 (e ▸ hy)
      simp only [List.mem_append, List.mem_cons] at h1 ⊢
      rcases h1 with h1 | h1 | h1
      · exact .inl h1
      · exact absurd h1 h2
      · exact .inr h1
    simp only [List.length_cons, List.length_append] at this ⊢
    omega
theorem cast_nodup (N : Nat) : ((List.range N).map fun v : Nat => (v : Int)).Nodup := by
  unfold List.Nodup
  rw [List.pairwise_map]
  exact List.Pairwise.imp (fun {x y} h => by omega) (pw_range N)
/-- what an order keeps, as far as it has come -/
structure OrdI (N : Nat) (E : List (Int × Int)) (D : List Int) : Prop where
  nd : D.Nodup
  rng : ∀ x ∈ D, 0 ≤ x ∧ x < N
  pre : ∀ (j : Nat) (h : j < D.length), ∀ e ∈ E, e.2 = D[j] → e.1 ∈ D.take j
theorem ordK_inv {N : Nat} {E : List (Int × Int)} : ∀ (i : Nat) {D : List Int}, ordK N E i = some D → OrdI N E D
  | 0, D, h => by cases h; exact ⟨List.nodup_nil, by simp, fun j h => absurd h (by simp)⟩
  | i + 1, D, h => by
    unfold ordK at h
    cases hk : ordK N E i with
    | none => rw [hk] at h; cases h
    | some D' =>
      rw [hk] at h
      simp only at h
      have ih := ordK_inv i hk
      cases hf : (List.range N).find? (rdy E D') with
      | none => rw [hf] at h; cases h
      | some k =>
        rw [hf] at h
        cases h
        have hr := List.find?_some hf
        have hkN := List.mem_range.1 (List.mem_of_find?_eq_some hf)
        unfold rdy at hr
        simp only [Bool.and_eq_true, Bool.not_eq_true', decide_eq_false_iff_not, List.all_eq_true, Bool.or_eq_true, decide_eq_true_eq] at hr
        obtain ⟨h1, h2⟩ := hr
        refine ⟨?_, fun x hx => ?_, fun j hj e he e2 => ?_⟩
        · rw [List.nodup_append]
          exact ⟨ih.nd, by simp, fun a ha b hb => by simp at hb; subst hb; exact fun e => h1 (e ▸ ha)⟩
        · rcases List.mem_append.1 hx with hx | hx
          · exact ih.rng x hx
          · simp at hx; subst hx; omega
        · simp only [List.length_append, List.length_cons, List.length_nil] at hj
          by_cases hj' : j < D'.length
          · rw [List.getElem_append_left hj'] at e2
            rw [List.take_append_of_le_length (by omega)]
            exact ih.pre j hj' e he e2
          · have : j = D'.length := by omega
            subst this
            rw [List.getElem_append_right (Nat.le_refl _)] at e2
            simp only [Nat.sub_self, List.getElem_cons_zero] at e2
            rw [List.take_append_of_le_length (Nat.le_refl _), List.take_length]
            rcases h2 e he with h3 | h3
            · exact absurd e2 h3
            · exact h3
theorem ord_full {N : Nat} {E : List (Int × Int)} {D : List Int} (h : OrdI N E D) (hl : D.length = N) {x : Int} (hx : 0 ≤ x ∧ x < N) : x ∈ D := by
  refine Classical.byContradiction fun hn => ?_
  have := nodup_len N (x :: D) (List.nodup_cons.2 ⟨hn, h.nd⟩) fun y hy => by
    rcases List.mem_cons.1 hy with rfl | hy
    · exact hx
    · exact h.rng y hy
  simp only [List.length_cons] at this
  omega
theorem idxOf_at {D : List Int} (hn : D.Nodup) {j : Nat} (hj : j < D.length) : idxOf D[j] D = j := by
  refine idxOf_hit _ _ j hj (fun y hy => ?_) rfl
  obtain ⟨i, hi, rfl⟩ := List.getElem_of_mem hy
  rw [List.getElem_take]
  rw [List.length_take] at hi
  exact fun e => absurd (List.pairwise_iff_getElem.1 hn i j (by omega) hj (by omega)) (by simp [e])
theorem ord_idx {N : Nat} {E : List (Int × Int)} (hG : Gr N E) {D : List Int} (h : OrdI N E D) (hl : D.length = N) {e : Int × Int} (he : e ∈ E) : idxOf e.1 D < idxOf e.2 D := by
  obtain ⟨r1, r2, r3, r4⟩ := hG.rng e he
  obtain ⟨j, hj, e2⟩ := List.getElem_of_mem (ord_full h hl ⟨r3, r4⟩)
  have h1 := h.pre j hj e he e2.symm
  obtain ⟨i, hi, e1⟩ := List.getElem_of_mem h1
  rw [List.getElem_take] at e1
  rw [List.length_take] at hi
  have hi' : i < D.length := by omega
  rw [← e2, ← e1, idxOf_at h.nd hj, idxOf_at h.nd hi']
  omega
theorem ord_wlk {N : Nat} {E : List (Int × Int)} (hG : Gr N E) {D : List Int} (h : OrdI N E D) (hl : D.length = N) {a : Int} : ∀ {s : Nat} {b : Int}, wlk E s a b = true → idxOf a D ≤ idxOf b D
  | 0, b, hw => by simp only [wlk, beq_iff_eq] at hw; subst hw; exact Int.le_refl _
  | s + 1, b, hw => by
    obtain ⟨c, h1, h2⟩ := wlk_succ.1 hw
    have := ord_wlk hG h hl h2
    have := ord_idx hG h hl h1
    simp only at this
    omega
/-- is there an edge whose end reaches its begin? -/
def Cyc (N : Nat) (E : List (Int × Int)) : Prop := ∃ e ∈ E, rch N E e.2 e.1 = true
theorem ord_cyc {N : Nat} {E : List (Int × Int)} (hG : Gr N E) {D : List Int} (h : ordK N E N = some D) : ¬ Cyc N E := by
  rintro ⟨e, he, hr⟩
  obtain ⟨r1, r2, r3, r4⟩ := hG.rng e he
  obtain ⟨s, hs⟩ := (rch_iff hG ⟨r3, r4⟩).1 hr
  have hi := ordK_inv N h
  have hl := ordK_len N D h
  have := ord_wlk hG hi hl hs
  have := ord_idx hG hi hl he
  omega
theorem rch_flip {N : Nat} {E : List (Int × Int)} (a b : Int) : rch N (revF E) a b = rch N E b a := by unfold rch; rw [dst_flip]
theorem stuck_cyc {N : Nat} {E : List (Int × Int)} (hG : Gr N E) : ∀ (i : Nat), i ≤ N → ordK N E i = none → Cyc N E
  | 0, _, h => by cases h
  | i + 1, hi, h => by
    unfold ordK at h
    cases hk : ordK N E i with
    | none => exact stuck_cyc hG i (by omega) hk
    | some D =>
      rw [hk] at h
      simp only at h
      have hD := ordK_inv i hk
      have hl := ordK_len i D hk
      cases hf : (List.range N).find? (rdy E D) with
      | some k => rw [hf] at h; cases h
      | none =>
        rw [List.find?_eq_none] at hf
        have hne : ((List.range N).map fun v : Nat => (v : Int)).filter (fun x => !decide (x ∈ D)) ≠ [] := fun e => by
          have := sub_len (cast_nodup N) (B := D) fun x hx => by
            have := List.filter_eq_nil_iff.1 e x hx
            simpa using this
          rw [List.length_map, List.length_range] at this
          omega
        obtain ⟨x, hx, hmin⟩ := min_ex (rnum N (revF E)) hne
        obtain ⟨hx1, hx2⟩ := List.mem_filter.1 hx
        obtain ⟨v, hv, rfl⟩ := List.mem_map.1 hx1
        have hv := List.mem_range.1 hv
        have hnr := hf v (List.mem_range.2 hv)
        unfold rdy at hnr
        rw [hx2, Bool.true_and, List.all_eq_true] at hnr
        obtain ⟨e, he, hp⟩ : ∃ e ∈ E, ¬ (!decide (e.2 = (v : Int)) || decide (e.1 ∈ D)) = true := Classical.byContradiction fun hc => hnr fun e he => Classical.byContradiction fun hp => hc ⟨e, he, hp⟩
        simp only [Bool.or_eq_true, Bool.not_eq_true', decide_eq_false_iff_not, decide_eq_true_eq, not_or, Classical.not_not] at hp
        obtain ⟨e2, e1⟩ := hp
        obtain ⟨r1, r2, r3, r4⟩ := hG.rng e he
        obtain ⟨a, b⟩ := e
        obtain ⟨c, rfl⟩ : ∃ c : Nat, a = c := ⟨a.toNat, by omega⟩
        dsimp only at *
        subst e2
        have hcN : c < N := by omega
        have hG' := revF_gr hG
        have h1 : rch N (revF E) v c = true := by rw [rch_flip]; exact (rch_iff hG (by omega)).2 ⟨1, wlk_succ.2 ⟨c, he, by simp [wlk]⟩⟩
        have h2 := hmin c (List.mem_filter.2 ⟨List.mem_map.2 ⟨c, List.mem_range.2 hcN, rfl⟩, by simp [e1]⟩)
        have h3 := rnum_back hG' hv hcN h1 h2
        rw [rch_flip] at h3
        exact ⟨_, he, h3⟩
theorem ord_none {N : Nat} {E : List (Int × Int)} (hG : Gr N E) : ordK N E N = none ↔ Cyc N E :=
  ⟨stuck_cyc hG N (Nat.le_refl _), fun h => by
    cases hk : ordK N E N with
    | none => rfl
    | some D => exact absurd h (ord_cyc hG hk)⟩
theorem fold_none {N : Nat} {E : List (Int × Int)} : ∀ {M : List (Int × Int)} {b : Option (List Int)}, M.foldl (cycStep N E) b = none ↔ b = none ∧ ∀ e ∈ M, dst N E e.2 e.1 = none
  | [], b => by simp
  | e :: M, b => by
    rw [List.foldl_cons, fold_none]
    simp only [List.mem_cons, forall_eq_or_imp]
    unfold cycStep
    cases hd : dst N E e.2 e.1 with
    | none => simp
    | some d =>
      cases b with
      | none => simp
      | some m => simp; split <;> simp
theorem cyc_none {N : Nat} {E : List (Int × Int)} : cycK N E E = none ↔ ¬ Cyc N E := by
  unfold cycK
  rw [fold_none]
  unfold Cyc rch
  constructor
  · rintro ⟨_, h⟩ ⟨e, he, hr⟩
    rw [h e he] at hr; cases hr
  · intro h
    refine ⟨rfl, fun e he => ?_⟩
    cases hd : dst N E e.2 e.1 with
    | none => rfl
    | some d => exact absurd ⟨e, he, by rw [hd]; rfl⟩ h
theorem fold_some {N : Nat} {E : List (Int × Int)} : ∀ {M : List (Int × Int)} {b : Option (List Int)} {C : List Int}, M.foldl (cycStep N E) b = some C → b = some C ∨ ∃ e ∈ M, ∃ d, dst N E e.2 e.1 = some d ∧ C = cycL N E e
  | [], b, C, h => .inl h
  | e :: M, b, C, h => by
    rw [List.foldl_cons] at h
    rcases fold_some h with h1 | ⟨e', he', h1⟩
    · unfold cycStep at h1
      cases hd : dst N E e.2 e.1 with
      | none => rw [hd] at h1; exact .inl h1
      | some d =>
        rw [hd] at h1
        cases b with
        | none => cases h1; exact .inr ⟨e, by simp, d, hd, rfl⟩
        | some m =>
          simp only at h1
          split at h1
          · cases h1; exact .inr ⟨e, by simp, d, hd, rfl⟩
          · exact .inl h1
    · exact .inr ⟨e', by simp [he'], h1⟩
theorem pth_at {N : Nat} {E : List (Int × Int)} (hG : Gr N E) {b : Int} : ∀ {s : Nat} {k : Int}, 0 ≤ k ∧ k < N → dst N E k b = some s → ∀ {j : Nat} {x : Int}, (pth N E b s k)[j]? = some x → j ≤ s ∧ dst N E x b = some (s - j)
  | 0, k, _, h, j, x, hx => by
    unfold pth at hx
    match j, hx with
    | 0, hx => cases hx; exact ⟨Nat.le_refl _, h⟩
  | s + 1, k, hk, h, j, x, hx => by
    obtain ⟨v, rfl⟩ : ∃ v : Nat, k = v := ⟨k.toNat, by omega⟩
    obtain ⟨h1, h2⟩ := stp_dst hG (by omega) h
    unfold pth at hx
    match j, hx with
    | 0, hx => cases hx; exact ⟨Nat.zero_le _, h⟩
    | j + 1, hx =>
      have hr := hG.rng _ h2
      have := pth_at hG ⟨hr.2.2.1, hr.2.2.2⟩ h1 (j := j) (by simpa using hx)
      exact ⟨by omega, by rw [Nat.add_sub_add_right]; exact this.2⟩
theorem pth_edge {N : Nat} {E : List (Int × Int)} (hG : Gr N E) {b : Int} : ∀ {s : Nat} {k : Int}, 0 ≤ k ∧ k < N → dst N E k b = some s → ∀ {j : Nat} {x y : Int}, (pth N E b s k)[j]? = some x → (pth N E b s k)[j + 1]? = some y → (x, y) ∈ E
  | 0, k, _, h, j, x, y, hx, hy => by
    unfold pth at hy; simp at hy
  | s + 1, k, hk, h, j, x, y, hx, hy => by
    obtain ⟨v, rfl⟩ : ∃ v : Nat, k = v := ⟨k.toNat, by omega⟩
    obtain ⟨h1, h2⟩ := stp_dst hG (by omega) h
    unfold pth at hx hy
    have hr := hG.rng _ h2
    match j, hx, hy with
    | 0, hx, hy =>
      cases hx
      rw [pth_cons] at hy
      simp at hy
      subst hy; exact h2
    | j + 1, hx, hy => exact pth_edge hG ⟨hr.2.2.1, hr.2.2.2⟩ h1 (j := j) (by simpa using hx) (by simpa using hy)
theorem dst_zero' {N : Nat} {E : List (Int × Int)} {a b : Int} (h : dst N E a b = some 0) : a = b := dst_zero h
/-- a list of nodes that is a cycle -/
structure IsCyc (E : List (Int × Int)) (C : List Int) : Prop where
  pos : 0 < C.length
  edge : ∀ (k : Nat) (h : k < C.length), (C[k], C[(k + 1) % C.length]'(Nat.mod_lt _ (by omega))) ∈ E
  dj : ∀ (k : Nat) (h : k < C.length), C[k] ∉ C.take k
theorem cyc_is {N : Nat} {E : List (Int × Int)} (hG : Gr N E) {C : List Int} (h : cycK N E E = some C) : IsCyc E C := by
  rcases fold_some h with h | ⟨e, he, d, hd, rfl⟩
  · cases h
  obtain ⟨r1, r2, r3, r4⟩ := hG.rng e he
  have hlen := cycL_leneq hd
  have hL := cycL_of hd
  have hat := fun {j x} => pth_at hG ⟨r3, r4⟩ hd (j := j) (x := x)
  have hed := fun {j x y} => pth_edge hG ⟨r3, r4⟩ hd (j := j) (x := x) (y := y)
  have hpl := pth_len N E e.1 d e.2
  have hz := dst_self hG ⟨r1, r2⟩
  have hP0 : (pth N E e.1 d e.2)[0]? = some e.2 := by rw [pth_cons]; rfl
  have hPd : ∀ x, (pth N E e.1 d e.2)[d]? = some x → x = e.1 := fun x hx => by
    have := (hat hx).2
    rw [Nat.sub_self] at this
    exact dst_zero this
  have c0 : (cycL N E e)[0]? = some e.1 := by rw [hL]; rfl
  have cs : ∀ j, j < d → (cycL N E e)[j + 1]? = (pth N E e.1 d e.2)[j]? := fun j hj => by
    rw [hL, List.getElem?_cons_succ, List.getElem?_take, if_pos hj]
  refine ⟨by omega, fun k hk => ?_, fun k hk hm => ?_⟩
  · obtain ⟨x, hx⟩ : ∃ x, (cycL N E e)[k] = x := ⟨_, rfl⟩
    obtain ⟨y, hy⟩ : ∃ y, (cycL N E e)[(k + 1) % (cycL N E e).length]'(Nat.mod_lt _ (by omega)) = y := ⟨_, rfl⟩
    have hx' := (List.getElem?_eq_getElem hk).trans (congrArg some hx)
    have hy' := (List.getElem?_eq_getElem (Nat.mod_lt (k + 1) (show (cycL N E e).length > 0 by omega))).trans (congrArg some hy)
    rw [hx, hy]
    rw [hlen] at hy' hk
    match k, hx', hy', hk with
    | 0, hx', hy', hk =>
      rw [c0] at hx'; cases hx'
      by_cases hd0 : d = 0
      · subst hd0
        rw [show (0 + 1) % (0 + 1) = 0 from rfl, c0] at hy'; cases hy'
        have := dst_zero hd
        rw [show (e.1, e.1) = e from Prod.ext rfl this.symm]; exact he
      · rw [Nat.mod_eq_of_lt (by omega), cs 0 (by omega), hP0] at hy'
        cases hy'; exact he
    | j + 1, hx', hy', hk =>
      rw [cs j (by omega)] at hx'
      by_cases hj : j + 1 < d
      · rw [Nat.mod_eq_of_lt (by omega), cs (j + 1) hj] at hy'
        exact hed hx' hy'
      · have : j + 1 = d := by omega
        rw [show (j + 1 + 1) % (d + 1) = 0 by rw [this]; exact Nat.mod_self _, c0] at hy'
        cases hy'
        obtain ⟨y, hy⟩ : ∃ y, (pth N E e.1 d e.2)[d]? = some y := ⟨_, List.getElem?_eq_getElem (by omega)⟩
        have h1 := hPd y hy
        subst h1
        exact hed hx' (by rw [this]; exact hy)
  · obtain ⟨i, hi, e1⟩ := List.getElem_of_mem hm
    rw [List.length_take] at hi
    rw [List.getElem_take] at e1
    have hik : i < k := by omega
    obtain ⟨x, hx⟩ : ∃ x, (cycL N E e)[k] = x := ⟨_, rfl⟩
    rw [hx] at e1
    have hx' := (List.getElem?_eq_getElem hk).trans (congrArg some hx)
    have hi' := (List.getElem?_eq_getElem (show i < (cycL N E e).length by omega)).trans (congrArg some e1)
    rw [hlen] at hk
    match k, i, hx', hi', hik, hk with
    | k + 1, 0, hx', hi', _, hk =>
      rw [c0] at hi'; cases hi'
      rw [cs k (by omega)] at hx'
      have := (hat hx').2
      rw [hz] at this
      injection this with this
      omega
    | k + 1, i + 1, hx', hi', hik, hk =>
      rw [cs k (by omega)] at hx'
      rw [cs i (by omega)] at hi'
      have h1 := (hat hx').2
      rw [(hat hi').2] at h1
      injection h1 with h1
      omega
/-- a walk among the classes is one among their nodes -/
theorem cond_wlk {N : Nat} {E : List (Int × Int)} (hG : Gr N E) {u : Nat} (hu : u < N) : ∀ {s : Nat} {v : Nat}, v < N → wlk (condR N E).2.1 s (ofv N E u) (ofv N E v) = true → rch N E u v = true
  | 0, v, hv, h => by
    simp only [wlk, beq_iff_eq] at h
    have := (of_eq hG hu hv).1 h
    unfold eqv at this
    simp only [Bool.and_eq_true] at this
    exact this.1
  | s + 1, v, hv, h => by
    obtain ⟨c, h1, h2⟩ := wlk_succ.1 h
    obtain ⟨e, he, _, hp⟩ := (cond_mem hG).1 h1
    injection hp with p1 p2
    obtain ⟨r1, r2, r3, r4⟩ := hG.rng e he
    obtain ⟨a, b⟩ := e
    obtain ⟨c, rfl⟩ : ∃ c : Nat, a = c := ⟨a.toNat, by omega⟩
    obtain ⟨d, rfl⟩ : ∃ c : Nat, b = c := ⟨b.toNat, by omega⟩
    dsimp only at *
    have hcN : c < N := by omega
    have hdN : d < N := by omega
    rw [p1] at h2
    have h3 := cond_wlk hG hu hcN h2
    have h4 : rch N E c d = true := (rch_iff hG (by omega)).2 ⟨1, wlk_succ.2 ⟨c, he, by simp [wlk]⟩⟩
    have h5 := (of_eq hG hdN hv).1 p2.symm
    unfold eqv at h5
    simp only [Bool.and_eq_true] at h5
    exact rch_trans hG hu hdN (rch_trans hG hu hcN h3 h4) h5.1
theorem cond_check {N : Nat} {E : List (Int × Int)} (hG : Gr N E) : checkF (condR N E).1 (condR N E).2.1 = 0 := by
  have := cond_eq hG
  unfold condR at this ⊢
  exact make_check (by rw [this])
theorem cond_acyc {N : Nat} {E : List (Int × Int)} (hG : Gr N E) : ∃ D, ordK (compF N E).length (condR N E).2.1 (compF N E).length = some D := by
  have h0 := cond_check hG
  have h1 : (condR N E).1 = ((compF N E).length : Int) := by rw [cond_eq hG]
  rw [h1] at h0
  obtain ⟨K, hK, hGC, _⟩ := checkF_ok h0
  have : K = (compF N E).length := by omega
  subst this
  cases hk : ordK (compF N E).length (condR N E).2.1 (compF N E).length with
  | some D => exact ⟨D, rfl⟩
  | none =>
    obtain ⟨p, hp, hr⟩ := (ord_none hGC).1 hk
    have hpr := hGC.rng p hp
    obtain ⟨s, hs⟩ := (rch_iff hGC ⟨hpr.2.2.1, hpr.2.2.2⟩).1 hr
    obtain ⟨e, he, hne, rfl⟩ := (cond_mem hG).1 hp
    obtain ⟨r1, r2, r3, r4⟩ := hG.rng e he
    obtain ⟨a, b⟩ := e
    obtain ⟨c, rfl⟩ : ∃ c : Nat, a = c := ⟨a.toNat, by omega⟩
    obtain ⟨d, rfl⟩ : ∃ c : Nat, b = c := ⟨b.toNat, by omega⟩
    dsimp only at *
    have hcN : c < N := by omega
    have hdN : d < N := by omega
    have h3 := cond_wlk hG hdN hcN hs
    have h4 : rch N E c d = true := (rch_iff hG (by omega)).2 ⟨1, wlk_succ.2 ⟨c, he, by simp [wlk]⟩⟩
    exact absurd ((of_eq hG hcN hdN).2 (by unfold eqv; rw [h3, h4]; rfl)) hne
end Go.Proofs.Ytdjhgcpmipglfaa
