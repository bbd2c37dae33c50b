/- Walks in a graph, and what a search through it finds: plain lists, no program. No condition. -/
import Derived.Test.YtdjhgcpmipglfaaG5
namespace Go.Proofs.Ytdjhgcpmipglfaa
open Go Go.RowKit Go.Dw

/-- Is there a walk of s edges from a to b? -/
def wlk (E : List (Int × Int)) : Nat → Int → Int → Bool
  | 0, a, b => a == b
  | s + 1, a, b => E.any fun e => e.2 == b && wlk E s a e.1
theorem wlk_succ {E : List (Int × Int)} {s : Nat} {a b : Int} : wlk E (s + 1) a b = true ↔ ∃ c, (c, b) ∈ E ∧ wlk E s a c = true := by
  simp only [wlk, List.any_eq_true, Bool.and_eq_true, beq_iff_eq]
  constructor
  · rintro ⟨e, h1, rfl, h3⟩; exact ⟨e.1, h1, h3⟩
  · rintro ⟨c, h1, h3⟩; exact ⟨(c, b), h1, rfl, h3⟩
theorem wlk_add {E : List (Int × Int)} {a b : Int} {s : Nat} (h1 : wlk E s a b = true) : ∀ {t : Nat} {c : Int}, wlk E t b c = true → wlk E (s + t) a c = true
  | 0, c, h => by simp only [wlk, beq_iff_eq] at h; subst h; exact h1
  | t + 1, c, h => by
    obtain ⟨d, h2, h3⟩ := wlk_succ.1 h
    exact wlk_succ.2 ⟨d, h2, wlk_add h1 h3⟩
theorem wlk_split {E : List (Int × Int)} {a : Int} : ∀ {s t : Nat} {c : Int}, wlk E (s + t) a c = true → ∃ b, wlk E s a b = true ∧ wlk E t b c = true
  | s, 0, c, h => ⟨c, h, by simp [wlk]⟩
  | s, t + 1, c, h => by
    obtain ⟨d, h2, h3⟩ := wlk_succ.1 (show wlk E ((s + t) + 1) a c = true from h)
    obtain ⟨b, h4, h5⟩ := wlk_split h3
    exact ⟨b, h4, wlk_succ.2 ⟨d, h2, h5⟩⟩
theorem wlk_rng {N : Nat} {E : List (Int × Int)} (hG : Gr N E) {a : Int} (ha : 0 ≤ a ∧ a < N) : ∀ {s : Nat} {b : Int}, wlk E s a b = true → 0 ≤ b ∧ b < N
  | 0, b, h => by simp only [wlk, beq_iff_eq] at h; subst h; exact ha
  | s + 1, b, h => by
    obtain ⟨c, h1, _⟩ := wlk_succ.1 h
    have := hG.rng _ h1
    exact ⟨this.2.2.1, this.2.2.2⟩

theorem nodup_len : ∀ (N : Nat) (L : List Int), L.Nodup → (∀ x ∈ L, 0 ≤ x ∧ x < N) → L.length ≤ N
  | 0, [], _, _ => Nat.le_refl _
  | 0, x :: r, _, h => by have := h x (by simp); omega
  | N + 1, L, hn, h => by
    have h1 := nodup_len N (L.filter fun x => x != (N : Int)) (hn.filter _) (fun x hx => by
      simp only [List.mem_filter, bne_iff_ne, ne_eq] at hx
      have := h x hx.1
      omega)
    have h2 : ∀ L : List Int, L.Nodup → L.length ≤ (L.filter fun x => x != (N : Int)).length + 1 := by
      intro L hn
      induction L with
      | nil => simp
      | cons x r ih =>
        have hn' := List.nodup_cons.1 hn
        by_cases hx : x = (N : Int)
        · have : r.filter (fun x => x != (N : Int)) = r := List.filter_eq_self.2 fun y hy => by
            simp only [bne_iff_ne, ne_eq]
            intro e; subst e; exact hn'.1 (hx ▸ hy)
          rw [List.filter_cons_of_neg (by simp [hx]), this]; simp
        · rw [List.filter_cons_of_pos (by simp [hx])]
          have := ih hn'.2
          simp only [List.length_cons]; omega
    have := h2 L hn
    omega

/-- the least s < n for which p holds -/
def least (p : Nat → Bool) : Nat → Option Nat
  | 0 => none
  | n + 1 => match least p n with
    | some s => some s
    | none => if p n then some n else none
theorem least_some {p : Nat → Bool} : ∀ {n s : Nat}, least p n = some s → s < n ∧ p s = true ∧ ∀ t, t < s → p t = false
  | n + 1, s, h => by
    unfold least at h
    cases hl : least p n with
    | some s' => rw [hl] at h; cases h; have := least_some hl; exact ⟨by omega, this.2⟩
    | none =>
      rw [hl] at h
      simp only at h
      split at h
      · cases h
        rename_i hp
        refine ⟨Nat.lt_succ_self _, hp, fun t ht => ?_⟩
        exact least_none hl t ht
      · cases h
where least_none {p : Nat → Bool} : ∀ {n : Nat}, least p n = none → ∀ t, t < n → p t = false
  | n + 1, h, t, ht => by
    unfold least at h
    cases hl : least p n with
    | some s' => rw [hl] at h; cases h
    | none =>
      rw [hl] at h
      simp only at h
      split at h
      · cases h
      · rename_i hp
        by_cases e : t = n
        · subst e; simpa using hp
        · exact least_none hl t (by omega)
theorem least_none {p : Nat → Bool} {n : Nat} (h : least p n = none) : ∀ t, t < n → p t = false := least_some.least_none h
theorem least_ex {p : Nat → Bool} {n s : Nat} (hs : s < n) (hp : p s = true) : ∃ t, least p n = some t := by
  cases h : least p n with
  | some t => exact ⟨t, rfl⟩
  | none => have := least_none h s hs; rw [hp] at this; cases this

/-- A shortest walk is short. -/
theorem wlk_short {N : Nat} {E : List (Int × Int)} (hG : Gr N E) {a b : Int} (ha : 0 ≤ a ∧ a < N) {s : Nat} (h : wlk E s a b = true) : ∃ t, t < N ∧ wlk E t a b = true := by
  obtain ⟨t, ht⟩ := least_ex (p := fun s => wlk E s a b) (Nat.lt_succ_self s) h
  obtain ⟨_, h2, h3⟩ := least_some ht
  refine ⟨t, ?_, h2⟩
  -- a node at each distance
  have at' : ∀ d, d ≤ t → ∃ v, wlk E d a v = true ∧ ∀ d', d' < d → wlk E d' a v = false := by
    intro d hd
    obtain ⟨v, h4, h5⟩ := wlk_split (s := d) (t := t - d) (a := a) (c := b) (by rw [show d + (t - d) = t by omega]; exact h2)
    refine ⟨v, h4, fun d' hd' => ?_⟩
    cases hw : wlk E d' a v with
    | false => rfl
    | true =>
      have := wlk_add hw h5
      rw [h3 _ (by omega)] at this
      cases this
  have lst : ∀ d, d ≤ t + 1 → ∃ L : List Int, L.length = d ∧ L.Nodup ∧ ∀ v ∈ L, (0 ≤ v ∧ v < N) ∧ ∃ d', d' < d ∧ wlk E d' a v = true := by
    intro d
    induction d with
    | zero => intro _; exact ⟨[], rfl, by simp, by simp⟩
    | succ d ih =>
      intro hd
      obtain ⟨L, h4, h5, h6⟩ := ih (by omega)
      obtain ⟨v, h7, h8⟩ := at' d (by omega)
      refine ⟨v :: L, by simp [h4], ?_, ?_⟩
      · refine List.nodup_cons.2 ⟨fun hv => ?_, h5⟩
        obtain ⟨_, d', h9, h10⟩ := h6 v hv
        rw [h8 d' h9] at h10; cases h10
      · intro x hx
        rcases List.mem_cons.1 hx with rfl | hx
        · exact ⟨wlk_rng hG ha h7, d, by omega, h7⟩
        · obtain ⟨h9, d', h10, h11⟩ := h6 x hx
          exact ⟨h9, d', by omega, h11⟩
  obtain ⟨L, h4, h5, h6⟩ := lst (t + 1) (Nat.le_refl _)
  have := nodup_len N L h5 (fun x hx => (h6 x hx).1)
  omega

/-- the distance from a to b -/
def dst (N : Nat) (E : List (Int × Int)) (a b : Int) : Option Nat := least (fun s => wlk E s a b) N
def rch (N : Nat) (E : List (Int × Int)) (a b : Int) : Bool := (dst N E a b).isSome
theorem rch_iff {N : Nat} {E : List (Int × Int)} (hG : Gr N E) {a b : Int} (ha : 0 ≤ a ∧ a < N) : rch N E a b = true ↔ ∃ s, wlk E s a b = true := by
  unfold rch dst
  constructor
  · intro h
    obtain ⟨s, hs⟩ := Option.isSome_iff_exists.1 h
    exact ⟨s, (least_some hs).2.1⟩
  · rintro ⟨s, hs⟩
    obtain ⟨t, h1, h2⟩ := wlk_short hG ha hs
    obtain ⟨u, hu⟩ := least_ex (p := fun s => wlk E s a b) h1 h2
    rw [hu]; rfl
/-- for each node: is it reached from one of F? -/
def rchL (N : Nat) (E : List (Int × Int)) (F : List Int) : List Bool := (List.range N).map fun (b : Nat) => F.any fun a => rch N E a b

/-! ### The search -/
def sn (S : List Bool) (x : Int) : Bool := S.getD x.toNat false
theorem sn_set {S : List Bool} {x y : Int} (hx : 0 ≤ x) (hl : x.toNat < S.length) (hy : 0 ≤ y) : sn (S.set x.toNat true) y = (decide (y = x) || sn S y) := by
  unfold sn
  rw [List.getD_eq_getElem?_getD, List.getD_eq_getElem?_getD, List.getElem?_set]
  by_cases h : x = y
  · subst h; simp [hl]
  · have : x.toNat ≠ y.toNat := by omega
    simp [this, Ne.symm h]
def cf (S : List Bool) : Nat := (S.filter (!·)).length
theorem cf_set : ∀ {S : List Bool} {k : Nat}, S[k]? = some false → cf (S.set k true) + 1 = cf S
  | x :: r, 0, h => by simp at h; subst h; simp [cf]
  | x :: r, k + 1, h => by
    have := cf_set (S := r) (k := k) (by simpa using h)
    cases x <;> simp [cf] at * <;> omega
structure Bfs (N : Nat) (E : List (Int × Int)) (F : List Int) (S : List Bool) (Q : List Int) (k : Int) (rest : List Int) : Prop where
  len : S.length = N
  q : ∀ x ∈ Q, 0 ≤ x ∧ x < N ∧ sn S x = true
  fnd : ∀ x : Int, 0 ≤ x → x < N → sn S x = true → ∃ a ∈ F, ∃ s, wlk E s a x = true
  src : ∀ x ∈ F, sn S x = true
  clo : ∀ e ∈ E, sn S e.1 = true → e.1 ∈ Q ∨ sn S e.2 = true ∨ (e.1 = k ∧ e.2 ∈ rest)
  kk : ∀ t ∈ rest, (k, t) ∈ E ∧ sn S k = true
theorem mem_succs {E : List (Int × Int)} {k : Nat} {t : Int} : t ∈ succs E k ↔ ((k : Int), t) ∈ E := by
  simp only [succs, List.mem_map, List.mem_filter, beq_iff_eq]
  constructor
  · rintro ⟨e, ⟨h1, h2⟩, rfl⟩; rw [← h2]; exact h1
  · intro h; exact ⟨_, ⟨h, rfl⟩, rfl⟩
theorem Bfs.pop {N : Nat} {E : List (Int × Int)} {F : List Int} {S : List Bool} {Q : List Int} {k k0 : Int} {n : Nat} (h : Bfs N E F S (k :: Q) k0 []) (hk : k = n) : Bfs N E F S Q k (succs E n) := by
  refine ⟨h.len, fun x hx => h.q x (by simp [hx]), h.fnd, h.src, fun e he hs => ?_, fun t ht => ?_⟩
  · rcases h.clo e he hs with h1 | h1 | h1
    · rcases List.mem_cons.1 h1 with h2 | h2
      · refine .inr (.inr ⟨h2, mem_succs.2 ?_⟩)
        rw [← hk, ← h2]; exact he
      · exact .inl h2
    · exact .inr (.inl h1)
    · simp at h1
  · rw [hk]; exact ⟨mem_succs.1 ht, by rw [← hk]; exact (h.q k (by simp)).2.2⟩
theorem Bfs.skip {N : Nat} {E : List (Int × Int)} {F : List Int} {S : List Bool} {Q : List Int} {k t : Int} {rest : List Int} (h : Bfs N E F S Q k (t :: rest)) (ht : sn S t = true) : Bfs N E F S Q k rest := by
  refine ⟨h.len, h.q, h.fnd, h.src, fun e he hs => ?_, fun t ht => h.kk t (by simp [ht])⟩
  rcases h.clo e he hs with h1 | h1 | ⟨h1, h2⟩
  · exact .inl h1
  · exact .inr (.inl h1)
  · rcases List.mem_cons.1 h2 with h3 | h3
    · exact .inr (.inl (by rw [h3]; exact ht))
    · exact .inr (.inr ⟨h1, h3⟩)
theorem Bfs.mark {N : Nat} {E : List (Int × Int)} (hG : Gr N E) {F : List Int} {S : List Bool} {Q : List Int} {k t : Int} {rest : List Int} (h : Bfs N E F S Q k (t :: rest)) : Bfs N E F (S.set t.toNat true) (Q ++ [t]) k rest := by
  obtain ⟨hkt, hk⟩ := h.kk t (by simp)
  obtain ⟨r1, r2, r3, r4⟩ := hG.rng _ hkt
  simp only at r1 r2 r3 r4
  have hl : t.toNat < S.length := by rw [h.len]; omega
  have up : ∀ x, 0 ≤ x → sn S x = true → sn (S.set t.toNat true) x = true := fun x h0 hs => by rw [sn_set r3 hl h0, hs, Bool.or_true]
  have self : sn (S.set t.toNat true) t = true := by rw [sn_set r3 hl r3]; simp
  refine ⟨by rw [List.length_set]; exact h.len, fun x hx => ?_, fun x h0 h1 hs => ?_, fun x hx => ?_, fun e he hs => ?_, fun u hu => ⟨(h.kk u (by simp [hu])).1, up _ r1 (h.kk u (by simp [hu])).2⟩⟩
  · rcases List.mem_append.1 hx with h1 | h1
    · obtain ⟨h2, h3, h4⟩ := h.q x h1; exact ⟨h2, h3, up x h2 h4⟩
    · simp at h1; subst h1; exact ⟨r3, r4, self⟩
  · rw [sn_set r3 hl h0] at hs
    by_cases hx : x = t
    · subst hx
      obtain ⟨a, ha, s, hs⟩ := h.fnd k r1 r2 hk
      exact ⟨a, ha, s + 1, wlk_succ.2 ⟨k, hkt, hs⟩⟩
    · simp [hx] at hs; exact h.fnd x h0 h1 hs
  · have h1 := h.src x hx
    by_cases h0 : 0 ≤ x
    · exact up x h0 h1
    · unfold sn at *
      rw [show x.toNat = 0 by omega] at *
      rw [List.getD_eq_getElem?_getD] at *
      rw [List.getElem?_set]
      split
      · rfl
      · exact h1
  · have he' := hG.rng e he
    rw [sn_set r3 hl he'.1] at hs
    by_cases hx : e.1 = t
    · exact .inl (by simp [hx])
    · simp [hx] at hs
      rcases h.clo e he hs with h1 | h1 | ⟨h1, h2⟩
      · exact .inl (by simp [h1])
      · exact .inr (.inl (up _ he'.2.2.1 h1))
      · rcases List.mem_cons.1 h2 with h3 | h3
        · exact .inr (.inl (by rw [h3]; exact self))
        · exact .inr (.inr ⟨h1, h3⟩)
theorem Bfs.fin {N : Nat} {E : List (Int × Int)} (hG : Gr N E) {F : List Int} (hF : ∀ x ∈ F, 0 ≤ x ∧ x < N) {S : List Bool} {k : Int} (h : Bfs N E F S [] k []) : S = rchL N E F := by
  have clo : ∀ a, sn S a = true → ∀ s b, wlk E s a b = true → sn S b = true := by
    intro a ha s
    induction s with
    | zero => intro b hb; simp only [wlk, beq_iff_eq] at hb; subst hb; exact ha
    | succ s ih =>
      intro b hb
      obtain ⟨c, h1, h2⟩ := wlk_succ.1 hb
      rcases h.clo _ h1 (ih c h2) with h3 | h3 | ⟨_, h3⟩
      · cases h3
      · exact h3
      · cases h3
  apply List.ext_getElem
  · simp [rchL, h.len]
  · intro i h1 h2
    simp only [rchL, List.getElem_map, List.getElem_range]
    have hi : i < N := by rw [← h.len]; exact h1
    have e1 : S[i] = sn S i := by simp [sn, h1]
    rw [e1, Bool.eq_iff_iff, List.any_eq_true]
    constructor
    · intro hs
      obtain ⟨a, ha, hw⟩ := h.fnd i (by omega) (by omega) hs
      exact ⟨a, ha, (rch_iff hG (hF a ha)).2 hw⟩
    · rintro ⟨a, ha, hr⟩
      obtain ⟨s, hs⟩ := (rch_iff hG (hF a ha)).1 hr
      exact clo a (h.src a ha) s _ hs
/-- the start: S marks those of F, and these alone -/
theorem Bfs.init {N : Nat} {E : List (Int × Int)} (hG : Gr N E) {F : List Int} (hF : ∀ x ∈ F, 0 ≤ x ∧ x < N) {S : List Bool} (hl : S.length = N) (hS : ∀ x : Int, 0 ≤ x → (sn S x = true ↔ x ∈ F)) : Bfs N E F S F 0 [] := by
  refine ⟨hl, fun x hx => ⟨(hF x hx).1, (hF x hx).2, (hS x (hF x hx).1).2 hx⟩, fun x h0 h1 hs => ⟨x, (hS x h0).1 hs, 0, by simp [wlk]⟩, fun x hx => (hS x (hF x hx).1).2 hx, fun e he hs => ?_, by simp⟩
  exact .inl ((hS _ (hG.rng e he).1).1 hs)
end Go.Proofs.Ytdjhgcpmipglfaa
