/- The plain law of schedules: jobs that are given one after the other make a schedule. No condition. -/
import Derived.Test.YtnlkffccobdbjaaGreatXM
namespace Go.Proofs.YtnlkffccobdbjaaGreat
open Go Go.RowKit Go.Dw
abbrev SSt := List Jb × List Bool × List Int
def jbA (L : List Jb) (i : Nat) : Jb := L.getD i (0, 0, 0)
def stA (L : List Jb) (i : Nat) : Int := (jbA L i).2.2
def snA (L : List Jb) (i : Nat) : Int := (jbA L i).2.1
def duA (TT : List Tk) (i : Nat) : Int := (TT.getD i default).du
def afA (TT : List Tk) (i : Nat) : List Int := (TT.getD i default).af
def caA (TT : List Tk) (SS : List Sn) (i k : Nat) : Bool := canS (TT.getD i default).tl (SS.getD k default)
/-- a schedule -/
structure Sch (TT : List Tk) (SS : List Sn) (L : List Jb) : Prop where
  len : L.length = TT.length
  tk : ∀ i : Nat, i < TT.length → (jbA L i).1 = i
  st : ∀ i : Nat, i < TT.length → 0 ≤ snA L i ∧ snA L i < SS.length
  s0 : ∀ i : Nat, i < TT.length → 0 ≤ stA L i ∧ stA L i ≤ 25165824
  can : ∀ i : Nat, i < TT.length → caA TT SS i (snA L i).toNat = true
  dj : ∀ i j : Nat, i < TT.length → j < TT.length → i ≠ j → snA L i = snA L j → stA L i + duA TT i ≤ stA L j ∨ stA L j + duA TT j ≤ stA L i
  pr : ∀ i : Nat, i < TT.length → ∀ x ∈ afA TT i, stA L x.toNat + duA TT x.toNat ≤ stA L i
theorem Fit.d {TT : List Tk} (hF : Fit TT) {i : Nat} (hi : i < TT.length) : 1 ≤ duA TT i ∧ duA TT i ≤ 1048576 := by
  unfold duA; rw [tk_get hi]; exact hF.du _ (List.getElem_mem hi)
theorem Fit.a {TT : List Tk} (hF : Fit TT) {i : Nat} (hi : i < TT.length) : ∀ x ∈ afA TT i, 0 ≤ x ∧ x < (TT.length : Int) := by
  unfold afA; rw [tk_get hi]; exact hF.ar _ (List.getElem_mem hi)
theorem gSet {α : Type} {L : List α} {i j : Nat} {v d : α} (hi : i < L.length) : (L.set i v).getD j d = if i = j then v else L.getD j d := by
  rw [List.getD_eq_getElem?_getD, List.getD_eq_getElem?_getD]
  by_cases h : i = j
  · subst h; rw [if_pos rfl, List.getElem?_set_self hi]; rfl
  · rw [if_neg h, List.getElem?_set_ne h]
/-- a job is given -/
def jbS (TT : List Tk) (s : SSt) (i k : Nat) : SSt := (putJ TT s.1 s.2.2 i k, s.2.1.set i true, putF TT s.1 s.2.2 i k)
def t0A (TT : List Tk) (s : SSt) (i k : Nat) : Int := staF TT s.1 s.2.2 i k
/-- the tasks A have jobs -/
structure Par (TT : List Tk) (SS : List Sn) (s : SSt) (A : List Nat) : Prop where
  jl : s.1.length = TT.length
  fl : s.2.2.length = SS.length
  dl : s.2.1 = dnL TT.length A
  nd : A.Nodup
  lt : ∀ i ∈ A, i < TT.length
  tk : ∀ i ∈ A, (jbA s.1 i).1 = i
  st : ∀ i ∈ A, 0 ≤ snA s.1 i ∧ snA s.1 i < SS.length
  can : ∀ i ∈ A, caA TT SS i (snA s.1 i).toNat = true
  s0 : ∀ i ∈ A, 0 ≤ stA s.1 i ∧ stA s.1 i + duA TT i ≤ 1048576 * A.length
  fr : ∀ k, k < SS.length → 0 ≤ s.2.2.getD k 0 ∧ s.2.2.getD k 0 ≤ 1048576 * A.length
  fe : ∀ i ∈ A, stA s.1 i + duA TT i ≤ s.2.2.getD (snA s.1 i).toNat 0
  fx : ∀ k : Nat, k < SS.length → s.2.2.getD k 0 = 0 ∨ ∃ i ∈ A, snA s.1 i = k ∧ s.2.2.getD k 0 = stA s.1 i + duA TT i
  dj : ∀ i ∈ A, ∀ j ∈ A, i ≠ j → snA s.1 i = snA s.1 j → stA s.1 i + duA TT i ≤ stA s.1 j ∨ stA s.1 j + duA TT j ≤ stA s.1 i
  pr : ∀ i ∈ A, ∀ x ∈ afA TT i, x.toNat ∈ A ∧ stA s.1 x.toNat + duA TT x.toNat ≤ stA s.1 i
theorem Par.nil {TT : List Tk} {SS : List Sn} {J : List Jb} (h : J.length = TT.length) : Par TT SS (J, List.replicate TT.length false, List.replicate SS.length 0) [] := by
  refine ⟨h, List.length_replicate, ?_, List.nodup_nil, nofun, nofun, nofun, nofun, nofun, fun k hk => ?_, nofun, fun k hk => .inl ?_, nofun, nofun⟩
  · apply List.ext_getElem
    · simp [dnL]
    · intro j h1 h2; rw [dnL_get h2]; simp
  · rw [gD (by rw [List.length_replicate]; exact hk)]; simp
  · rw [gD (by rw [List.length_replicate]; exact hk)]; simp
theorem max_fold {f : Int → Int} : ∀ (A : List Int) (m : Int), m ≤ A.foldl (fun t k => max t (f k)) m ∧ (∀ x ∈ A, f x ≤ A.foldl (fun t k => max t (f k)) m) ∧ (A.foldl (fun t k => max t (f k)) m = m ∨ ∃ x ∈ A, A.foldl (fun t k => max t (f k)) m = f x)
  | [], m => ⟨Int.le_refl _, nofun, .inl rfl⟩
  | y :: A, m => by
    obtain ⟨h1, h2, h3⟩ := max_fold (f := f) A (max m (f y))
    rw [List.foldl_cons]
    refine ⟨by omega, fun x hx => ?_, ?_⟩
    · rcases List.mem_cons.1 hx with rfl | hx
      · omega
      · exact h2 x hx
    · rcases h3 with h3 | ⟨x, hx, h3⟩
      · rw [h3]
        rcases Int.le_total (f y) m with h | h
        · left; omega
        · right; exact ⟨y, List.mem_cons_self, by omega⟩
      · exact .inr ⟨x, List.mem_cons_of_mem _ hx, h3⟩
theorem end_eq {TT : List Tk} {L : List Jb} {i : Nat} (h : (jbA L i).1 = i) : endF TT (jbA L i) = stA L i + duA TT i := by
  unfold endF stA duA; rw [h, Int.toNat_natCast]
/-- when all that comes before has ended -/
theorem rdy_spec {TT : List Tk} {L : List Jb} {i : Nat} (h : ∀ x ∈ afA TT i, (jbA L x.toNat).1 = x.toNat) :
    0 ≤ rdyJ TT L i ∧ (∀ x ∈ afA TT i, stA L x.toNat + duA TT x.toNat ≤ rdyJ TT L i) ∧ (rdyJ TT L i = 0 ∨ ∃ x ∈ afA TT i, rdyJ TT L i = stA L x.toNat + duA TT x.toNat) := by
  obtain ⟨h1, h2, h3⟩ := max_fold (f := fun k => endF TT (L.getD k.toNat (0, 0, 0))) (afA TT i) 0
  have e : ∀ x ∈ afA TT i, endF TT (L.getD x.toNat (0, 0, 0)) = stA L x.toNat + duA TT x.toNat := fun x hx => end_eq (h x hx)
  refine ⟨h1, fun x hx => ?_, ?_⟩
  · rw [← e x hx]; exact h2 x hx
  · rcases h3 with h3 | ⟨x, hx, h3⟩
    · exact .inl h3
    · exact .inr ⟨x, hx, by rw [← e x hx]; exact h3⟩
theorem Par.opn {TT : List Tk} {SS : List Sn} {s : SSt} {A : List Nat} (h : Par TT SS s A) (hF : Fit TT) {i : Nat} (hi : i < TT.length) : opnF TT s.2.1 i = true ↔ i ∉ A ∧ ∀ x ∈ afA TT i, x.toNat ∈ A := by
  rw [h.dl, opn_rdy hi (hF.ar _ (List.getElem_mem hi))]
  unfold rdyT afA
  rw [Bool.and_eq_true, List.all_eq_true]
  simp
theorem Par.t0 {TT : List Tk} {SS : List Sn} {s : SSt} {A : List Nat} (h : Par TT SS s A) (hF : Fit TT) {i k : Nat} (hi : i < TT.length) (hk : k < SS.length) (ho : opnF TT s.2.1 i = true) :
    s.2.2.getD k 0 ≤ t0A TT s i k ∧ 0 ≤ t0A TT s i k ∧ t0A TT s i k ≤ 1048576 * A.length ∧ (∀ x ∈ afA TT i, stA s.1 x.toNat + duA TT x.toNat ≤ t0A TT s i k) ∧
    (t0A TT s i k = 0 ∨ (∃ x ∈ afA TT i, t0A TT s i k = stA s.1 x.toNat + duA TT x.toNat) ∨ ∃ j ∈ A, snA s.1 j = k ∧ t0A TT s i k = stA s.1 j + duA TT j) := by
  obtain ⟨o1, o2⟩ := (h.opn hF hi).1 ho
  obtain ⟨r1, r2, r3⟩ := rdy_spec (TT := TT) (L := s.1) (i := i) fun x hx => h.tk _ (o2 x hx)
  have hfr := h.fr k hk
  have hr : rdyJ TT s.1 i ≤ 1048576 * A.length := by
    rcases r3 with r3 | ⟨x, hx, r3⟩
    · omega
    · have := h.s0 _ (o2 x hx); omega
  have e : t0A TT s i k = max (s.2.2.getD k 0) (rdyJ TT s.1 i) := rfl
  refine ⟨by omega, by omega, by omega, fun x hx => by have := r2 x hx; omega, ?_⟩
  rcases Int.le_total (rdyJ TT s.1 i) (s.2.2.getD k 0) with hle | hle
  · rcases h.fx k hk with f | ⟨j, hj, f1, f2⟩
    · exact .inl (by omega)
    · exact .inr (.inr ⟨j, hj, f1, by omega⟩)
  · rcases r3 with r3 | ⟨x, hx, r3⟩
    · exact .inl (by omega)
    · exact .inr (.inl ⟨x, hx, by omega⟩)
section
variable {TT : List Tk} {SS : List Sn} {s : SSt} {A : List Nat}
theorem stp_jb (h : s.1.length = TT.length) {i k : Nat} (hi : i < TT.length) (j : Nat) : jbA (jbS TT s i k).1 j = if i = j then ((i : Int), (k : Int), t0A TT s i k) else jbA s.1 j := by
  unfold jbS putJ jbA t0A
  exact gSet (by rw [h]; exact hi)
theorem stp_same (h : s.1.length = TT.length) {i k : Nat} (hi : i < TT.length) : stA (jbS TT s i k).1 i = t0A TT s i k ∧ snA (jbS TT s i k).1 i = k ∧ (jbA (jbS TT s i k).1 i).1 = i := by
  unfold stA snA; rw [stp_jb h hi, if_pos rfl]; exact ⟨rfl, rfl, rfl⟩
theorem stp_other (h : s.1.length = TT.length) {i k j : Nat} (hi : i < TT.length) (hj : j ≠ i) : stA (jbS TT s i k).1 j = stA s.1 j ∧ snA (jbS TT s i k).1 j = snA s.1 j ∧ jbA (jbS TT s i k).1 j = jbA s.1 j := by
  unfold stA snA; rw [stp_jb h hi, if_neg (Ne.symm hj)]; exact ⟨rfl, rfl, rfl⟩
theorem stp_free (h : s.2.2.length = SS.length) {i k : Nat} (hk : k < SS.length) (j : Nat) : (jbS TT s i k).2.2.getD j 0 = if k = j then t0A TT s i k + duA TT i else s.2.2.getD j 0 := by
  unfold jbS putF
  dsimp only
  rw [gSet (by rw [h]; exact hk)]
  unfold endF duA t0A
  rw [Int.toNat_natCast]
theorem Par.step (h : Par TT SS s A) (hF : Fit TT) {i k : Nat} (hi : i < TT.length) (hk : k < SS.length) (ho : opnF TT s.2.1 i = true) (hc : caA TT SS i k = true) : Par TT SS (jbS TT s i k) (A ++ [i]) := by
  obtain ⟨o1, o2⟩ := (h.opn hF hi).1 ho
  obtain ⟨t1, t2, t3, t4, t5⟩ := h.t0 hF hi hk ho
  obtain ⟨e1, e2, e3⟩ := stp_same (TT := TT) (k := k) h.jl hi
  have hd := hF.d hi
  have ne : ∀ {a : Nat}, a ∈ A → a ≠ i := fun ha e => o1 (e ▸ ha)
  have oth := fun {a : Nat} (ha : a ∈ A) => stp_other (TT := TT) (k := k) h.jl hi (ne ha)
  have mem : ∀ {a : Nat}, a ∈ A ++ [i] → a ∈ A ∨ a = i := fun ha => by simpa using ha
  have hl : ((A ++ [i]).length : Int) = A.length + 1 := by simp
  refine ⟨?_, ?_, ?_, ?_, fun a ha => ?_, fun a ha => ?_, fun a ha => ?_, fun a ha => ?_, fun a ha => ?_, fun c hc' => ?_, fun a ha => ?_, fun c hc' => ?_, fun a ha b hb hab hs => ?_, fun a ha x hx => ?_⟩
  · unfold jbS putJ; rw [List.length_set]; exact h.jl
  · unfold jbS putF; rw [List.length_set]; exact h.fl
  · show s.2.1.set i true = _
    rw [h.dl, dnL_set]
  · refine List.nodup_append.2 ⟨h.nd, by simp, fun a ha b hb e => ?_⟩
    rw [List.mem_singleton.1 hb] at e; exact o1 (e ▸ ha)
  · rcases mem ha with ha | rfl
    · exact h.lt a ha
    · exact hi
  · rcases mem ha with ha | rfl
    · rw [(oth ha).2.2]; exact h.tk a ha
    · exact e3
  · rcases mem ha with ha | rfl
    · rw [(oth ha).2.1]; exact h.st a ha
    · rw [e2]; omega
  · rcases mem ha with ha | rfl
    · rw [(oth ha).2.1]; exact h.can a ha
    · rw [e2, Int.toNat_natCast]; exact hc
  · rw [hl]
    rcases mem ha with ha | rfl
    · rw [(oth ha).1]; have := h.s0 a ha; omega
    · rw [e1]; omega
  · rw [hl, stp_free h.fl hk]
    have := h.fr c hc'
    split <;> omega
  · rw [stp_free h.fl hk]
    rcases mem ha with ha | rfl
    · rw [(oth ha).1, (oth ha).2.1]
      have := h.fe a ha
      split
      · rename_i e; rw [← e] at this; omega
      · exact this
    · rw [e1, e2, Int.toNat_natCast, if_pos rfl]; exact Int.le_refl _
  · rw [stp_free h.fl hk]
    split
    · rename_i e; subst e
      exact .inr ⟨i, by simp, e2, by rw [e1]⟩
    · rcases h.fx c hc' with f | ⟨j, hj, f1, f2⟩
      · exact .inl f
      · exact .inr ⟨j, by simp [hj], by rw [(oth hj).2.1]; exact f1, by rw [(oth hj).1]; exact f2⟩
  · have key : ∀ b ∈ A, snA s.1 b = k → stA s.1 b + duA TT b ≤ t0A TT s i k := fun b hb e => by
      have := h.fe b hb
      rw [e, Int.toNat_natCast] at this; omega
    rcases mem ha with ga | rfl <;> rcases mem hb with gb | rfl
    · rw [(oth ga).1, (oth gb).1]; rw [(oth ga).2.1, (oth gb).2.1] at hs; exact h.dj a ga b gb hab hs
    · rw [(oth ga).2.1, e2] at hs
      rw [(oth ga).1, e1]; exact .inl (key a ga hs)
    · rw [(oth gb).2.1, e2] at hs
      rw [(oth gb).1, e1]; exact .inr (key b gb hs.symm)
    · exact absurd rfl hab
  · rcases mem ha with ha | rfl
    · obtain ⟨p1, p2⟩ := h.pr a ha x hx
      rw [(oth ha).1, (oth p1).1]
      exact ⟨by simp [p1], p2⟩
    · rw [e1, (oth (o2 x hx)).1]
      exact ⟨by simp [o2 x hx], t4 x hx⟩
end
/-- all that are below N are in a list of N different ones below N -/
theorem all_in {N : Nat} {A : List Nat} (hn : A.Nodup) (hl : ∀ a ∈ A, a < N) (hN : A.length = N) {i : Nat} (hi : i < N) : i ∈ A := by
  refine Classical.byContradiction fun h => ?_
  have := sub_len_of (L := i :: A) (M := List.range N) (List.nodup_cons.2 ⟨h, hn⟩) (fun x hx => by
    rcases List.mem_cons.1 hx with rfl | hx
    · exact List.mem_range.2 hi
    · exact List.mem_range.2 (hl x hx))
  simp at this; omega
theorem Par.sch {TT : List Tk} {SS : List Sn} {s : SSt} {A : List Nat} (h : Par TT SS s A) (hF : Fit TT) (hN : A.length = TT.length) : Sch TT SS s.1 := by
  have ha := fun {i : Nat} (hi : i < TT.length) => all_in h.nd h.lt hN hi
  have hn := hF.n
  refine ⟨h.jl, fun i hi => h.tk i (ha hi), fun i hi => h.st i (ha hi), fun i hi => ?_, fun i hi => h.can i (ha hi), fun i j hi hj hij hs => h.dj i (ha hi) j (ha hj) hij hs, fun i hi x hx => (h.pr i (ha hi) x hx).2⟩
  have := h.s0 i (ha hi)
  have := hF.d hi
  omega
/-! ### Runs -/
def runS (TT : List Tk) (s : SSt) (Q : List (Nat × Nat)) : SSt := Q.foldl (fun s p => jbS TT s p.1 p.2) s
def okS (TT : List Tk) (SS : List Sn) : SSt → List (Nat × Nat) → Prop
  | _, [] => True
  | s, p :: Q => (p.1 < TT.length ∧ p.2 < SS.length ∧ opnF TT s.2.1 p.1 = true ∧ caA TT SS p.1 p.2 = true) ∧ okS TT SS (jbS TT s p.1 p.2) Q
/-- the jobs begin one not before the other -/
def incS (TT : List Tk) : SSt → Int → List (Nat × Nat) → Prop
  | _, _, [] => True
  | s, last, p :: Q => last ≤ t0A TT s p.1 p.2 ∧ incS TT (jbS TT s p.1 p.2) (t0A TT s p.1 p.2) Q
theorem Par.run {TT : List Tk} {SS : List Sn} (hF : Fit TT) : ∀ (Q : List (Nat × Nat)) {s : SSt} {A : List Nat}, Par TT SS s A → okS TT SS s Q → Par TT SS (runS TT s Q) (A ++ Q.map (·.1))
  | [], s, A, h, _ => by simpa [runS] using h
  | p :: Q, s, A, h, ho => by
    obtain ⟨⟨h1, h2, h3, h4⟩, h5⟩ := ho
    have := Par.run hF Q (h.step hF h1 h2 h3 h4) h5
    simpa [runS] using this
end Go.Proofs.YtnlkffccobdbjaaGreat
