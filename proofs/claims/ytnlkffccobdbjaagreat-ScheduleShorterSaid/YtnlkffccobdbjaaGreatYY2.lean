/- The plain law of the best schedule: the search of Best, and that of the model, find the least makespan. -/
import Derived.Test.YtnlkffccobdbjaaGreatXO
import Derived.Test.YtnlkffccobdbjaaGreatYXa
namespace Go.Proofs.YtnlkffccobdbjaaGreat
open Go Go.RowKit Go.Dw
section
variable {TT : List Tk} {SS : List Sn}
theorem bst_best (hF : Fit TT) (hE : shopE TT SS = 0) (h8 : TT.length ≤ 8) : Sch TT SS (bstR TT SS) ∧ ∀ L, Sch TT SS L → mspF TT (bstR TT SS) ≤ mspF TT L := by
  have hO := (shop_ok hE).2.2.2.1
  have e0 : bstE TT SS = 0 := by unfold bstE; rw [if_neg (fun h => h hE), if_neg (by omega)]
  have e1 : bstR TT SS = (bstF TT SS).2 := by unfold bstR; rw [if_pos e0]
  have h0 : Sch TT SS (bst0 TT SS) := lis_sch hF hE (prL_ord TT (tailsF TT) 1)
  have hb := best_opt (TT := TT) (SS := SS) (T := tailsF TT) (lower := (lowF TT SS).1) hF (fun L hL => low_snd hF hE hL) (fun L hL i hi => tail_snd hF hO hL _ i (Nat.le_refl _) hi) h0
  have e2 : bstF TT SS = runF TT SS (tailsF TT) (lowF TT SS).1 TT.length (begS TT SS) 0 (mspF TT (bst0 TT SS), bst0 TT SS) := rfl
  rw [← e2] at hb
  obtain ⟨⟨g1, g2⟩, g3⟩ := hb
  rw [e1]
  exact ⟨g1, fun L hL => by rw [g2]; exact g3 L hL⟩
/-! ### the model's search -/
/-- the least of some values that are not negative, or -1 -/
def LeP (V : Int → Prop) (l : Int) : Prop := (l = -1 ∧ ∀ v, ¬ V v) ∨ (0 ≤ l ∧ V l ∧ ∀ v, V v → l ≤ v)
theorem LeP.congr {V V' : Int → Prop} {l : Int} (h : LeP V l) (e : ∀ v, V v ↔ V' v) : LeP V' l := by
  have : V = V' := funext fun v => propext (e v)
  rw [← this]; exact h
theorem LeP.add {V : Int → Prop} {l x : Int} (h : LeP V l) (hx : 0 ≤ x) : LeP (fun v => V v ∨ v = x) (if (decide (l < 0) || decide (x < l)) = true then x else l) := by
  rcases h with ⟨h1, h2⟩ | ⟨h1, h2, h3⟩
  · subst h1
    rw [if_pos (show (decide ((-1 : Int) < 0) || decide (x < -1)) = true by rw [decide_eq_true (show (-1 : Int) < 0 by decide)]; rfl)]
    exact .inr ⟨hx, .inr rfl, fun v hv => by
      rcases hv with hv | hv
      · exact absurd hv (h2 v)
      · omega⟩
  · rw [decide_eq_false (by omega), Bool.false_or]
    by_cases hc : x < l
    · rw [if_pos (decide_eq_true hc)]
      exact .inr ⟨hx, .inr rfl, fun v hv => by
        rcases hv with hv | hv
        · have := h3 v hv; omega
        · omega⟩
    · rw [if_neg (by simpa using hc)]
      exact .inr ⟨h1, .inl h2, fun v hv => by
        rcases hv with hv | hv
        · exact h3 v hv
        · omega⟩
theorem LeP.bd {V : Int → Prop} {l b : Int} (h : LeP V l) (hb : 0 ≤ b) (hV : ∀ v, V v → v ≤ b) : -1 ≤ l ∧ l ≤ b := by
  rcases h with ⟨h1, _⟩ | ⟨h1, h2, _⟩
  · omega
  · have := hV l h2; omega
def fmx (F : List Int) : Int := F.foldl max 0
/-- the values of what can follow -/
def vlS (TT : List Tk) (SS : List Sn) : Nat → SSt → Int → Prop
  | 0, s, v => v = fmx s.2.2
  | m + 1, s, v => ∃ i k, i < TT.length ∧ k < SS.length ∧ opnF TT s.2.1 i = true ∧ caA TT SS i k = true ∧ vlS TT SS m (jbS TT s i k) v
structure Agr (A : List Nat) (s s' : SSt) : Prop where
  d : s'.2.1 = s.2.1
  f : s'.2.2 = s.2.2
  l : s'.1.length = s.1.length
  j : ∀ a ∈ A, jbA s'.1 a = jbA s.1 a
theorem Agr.refl (A : List Nat) (s : SSt) : Agr A s s := ⟨rfl, rfl, rfl, fun _ _ => rfl⟩
theorem Agr.symm {A : List Nat} {s s' : SSt} (h : Agr A s s') : Agr A s' s := ⟨h.d.symm, h.f.symm, h.l.symm, fun a ha => (h.j a ha).symm⟩
theorem Agr.trans {A : List Nat} {s s' s2 : SSt} (h : Agr A s s') (g : Agr A s' s2) : Agr A s s2 := ⟨g.d.trans h.d, g.f.trans h.f, g.l.trans h.l, fun a ha => (g.j a ha).trans (h.j a ha)⟩
theorem Agr.sub {A B : List Nat} {s s' : SSt} (h : Agr A s s') (hs : ∀ b ∈ B, b ∈ A) : Agr B s s' := ⟨h.d, h.f, h.l, fun a ha => h.j a (hs a ha)⟩
theorem Par.agr {A : List Nat} {s s' : SSt} (h : Par TT SS s A) (g : Agr A s s') : Par TT SS s' A := by
  have e : ∀ a ∈ A, jbA s'.1 a = jbA s.1 a := g.j
  have e1 : ∀ a ∈ A, stA s'.1 a = stA s.1 a := fun a ha => by unfold stA; rw [e a ha]
  have e2 : ∀ a ∈ A, snA s'.1 a = snA s.1 a := fun a ha => by unfold snA; rw [e a ha]
  refine ⟨g.l.trans h.jl, by rw [g.f]; exact h.fl, g.d.trans h.dl, h.nd, h.lt, fun i hi => by rw [e i hi]; exact h.tk i hi, fun i hi => by rw [e2 i hi]; exact h.st i hi, fun i hi => by rw [e2 i hi]; exact h.can i hi, fun i hi => by rw [e1 i hi]; exact h.s0 i hi,
    fun k hk => by rw [g.f]; exact h.fr k hk, fun i hi => by rw [g.f, e1 i hi, e2 i hi]; exact h.fe i hi, fun k hk => ?_, fun i hi j hj hij hs => ?_, fun i hi x hx => ?_⟩
  · rw [g.f]
    rcases h.fx k hk with g1 | ⟨i, hi, g1, g2⟩
    · exact .inl g1
    · exact .inr ⟨i, hi, by rw [e2 i hi]; exact g1, by rw [e1 i hi]; exact g2⟩
  · rw [e1 i hi, e1 j hj]
    exact h.dj i hi j hj hij (by rw [← e2 i hi, ← e2 j hj]; exact hs)
  · obtain ⟨g1, g2⟩ := h.pr i hi x hx
    exact ⟨g1, by rw [e1 i hi, e1 _ g1]; exact g2⟩
theorem Agr.t0 {A : List Nat} {s s' : SSt} (g : Agr A s s') {i k : Nat} (haf : ∀ x ∈ afA TT i, x.toNat ∈ A) : t0A TT s' i k = t0A TT s i k := by
  unfold t0A staF
  rw [g.f]
  congr 1
  unfold rdyJ
  refine fold_ext (f := fun k => endF TT (s'.1.getD k.toNat (0, 0, 0))) (g := fun k => endF TT (s.1.getD k.toNat (0, 0, 0))) _ 0 fun x hx => ?_
  have := g.j x.toNat (haf x hx)
  unfold jbA at this
  rw [this]
theorem Agr.step {A : List Nat} {s s' : SSt} (hF : Fit TT) (h : Par TT SS s A) (g : Agr A s s') {i k : Nat} (hi : i < TT.length) (ho : opnF TT s.2.1 i = true) : Agr (A ++ [i]) (jbS TT s i k) (jbS TT s' i k) := by
  have haf := ((h.opn hF hi).1 ho).2
  have et := g.t0 (TT := TT) (i := i) (k := k) haf
  have hl' : s'.1.length = TT.length := g.l.trans h.jl
  refine ⟨by show s'.2.1.set i true = s.2.1.set i true; rw [g.d], ?_, ?_, fun a ha => ?_⟩
  · show putF TT s'.1 s'.2.2 i k = putF TT s.1 s.2.2 i k
    unfold putF
    rw [show staF TT s'.1 s'.2.2 i k = staF TT s.1 s.2.2 i k from et, g.f]
  · show (putJ TT s'.1 s'.2.2 i k).length = (putJ TT s.1 s.2.2 i k).length
    unfold putJ; rw [List.length_set, List.length_set, g.l]
  · rw [stp_jb (TT := TT) hl' hi, stp_jb (TT := TT) h.jl hi, et]
    split
    · rfl
    · rename_i hne
      refine g.j a ((List.mem_append.1 ha).resolve_right fun h => hne (List.mem_singleton.1 h).symm)
theorem vl_agr (hF : Fit TT) : ∀ (m : Nat) {A : List Nat} {s s' : SSt} {v : Int}, Par TT SS s A → Agr A s s' → vlS TT SS m s v → vlS TT SS m s' v := by
  intro m
  induction m with
  | zero => intro A s s' v _ g h; show v = fmx s'.2.2; rw [g.f]; exact h
  | succ m ih =>
    intro A s s' v hP g h
    obtain ⟨i, k, hi, hk, ho, hc, hv⟩ := h
    exact ⟨i, k, hi, hk, by rw [g.d]; exact ho, hc, ih (hP.step hF hi hk ho hc) (g.step hF hP hi ho) hv⟩
theorem vl_iff (hF : Fit TT) {m : Nat} {A : List Nat} {s s' : SSt} {v : Int} (hP : Par TT SS s A) (g : Agr A s s') : vlS TT SS m s v ↔ vlS TT SS m s' v :=
  ⟨vl_agr hF m hP g, vl_agr hF m (hP.agr g) g.symm⟩
theorem vl_run (hF : Fit TT) : ∀ (m : Nat) {s : SSt} {v : Int}, vlS TT SS m s v ↔ ∃ Q, okS TT SS s Q ∧ Q.length = m ∧ v = fmx (runS TT s Q).2.2 := by
  intro m
  induction m with
  | zero =>
    intro s v
    constructor
    · intro h; exact ⟨[], trivial, rfl, h⟩
    · rintro ⟨Q, _, hl, h⟩
      rw [List.eq_nil_of_length_eq_zero hl] at h
      exact h
  | succ m ih =>
    intro s v
    constructor
    · rintro ⟨i, k, hi, hk, ho, hc, hv⟩
      obtain ⟨Q, h1, h2, h3⟩ := ih.1 hv
      exact ⟨(i, k) :: Q, ⟨⟨hi, hk, ho, hc⟩, h1⟩, by simp [h2], h3⟩
    · rintro ⟨Q, h1, h2, h3⟩
      cases Q with
      | nil => simp at h2
      | cons p Q => exact ⟨p.1, p.2, h1.1.1, h1.1.2.1, h1.1.2.2.1, h1.1.2.2.2, ih.2 ⟨Q, h1.2, by simpa using h2, h3⟩⟩
theorem fmx_max : ∀ (F : List Int), 0 ≤ fmx F ∧ (∀ x ∈ F, x ≤ fmx F) ∧ (fmx F = 0 ∨ fmx F ∈ F) := by
  have key : ∀ (A : List Int) (x : Int), x ≤ A.foldl max x ∧ (∀ y ∈ A, y ≤ A.foldl max x) ∧ (A.foldl max x = x ∨ A.foldl max x ∈ A) := by
    intro A
    induction A with
    | nil => exact fun x => ⟨Int.le_refl _, nofun, .inl rfl⟩
    | cons z A ih =>
      intro x
      obtain ⟨h1, h2, h3⟩ := ih (max x z)
      refine ⟨by show x ≤ A.foldl max (max x z); omega, fun y hy => ?_, ?_⟩
      · show y ≤ A.foldl max (max x z)
        rcases List.mem_cons.1 hy with rfl | hy
        · omega
        · exact h2 y hy
      · show A.foldl max (max x z) = x ∨ A.foldl max (max x z) ∈ z :: A
        rcases h3 with h | h
        · rcases Int.le_total x z with g | g
          · right; rw [h, show max x z = z by omega]; simp
          · left; rw [h]; omega
        · right; exact List.mem_cons_of_mem _ h
  exact fun F => key F 0
/-- when all have jobs, the greatest time at which a station is free is the makespan -/
theorem free_msp (hF : Fit TT) {s : SSt} {A : List Nat} (h : Par TT SS s A) (hN : A.length = TT.length) : fmx s.2.2 = mspF TT s.1 := by
  have hS := h.sch hF hN
  obtain ⟨m1, m2, m3⟩ := hS.msp
  obtain ⟨f1, f2, f3⟩ := fmx_max s.2.2
  refine Int.le_antisymm ?_ ?_
  · rcases f3 with e | e
    · omega
    · obtain ⟨k, hk, e2⟩ := List.mem_iff_getElem.1 e
      rcases h.fx k (by rw [← h.fl]; exact hk) with g | ⟨i, hi, _, g⟩
      · rw [gD hk, e2] at g; omega
      · rw [gD hk, e2] at g
        rw [g]; exact m2 i (h.lt i hi)
  · rcases m3 with e | ⟨i, hi, e⟩
    · omega
    · have hiA := all_in h.nd h.lt hN hi
      have g := h.fe i hiA
      have hs := h.st i hiA
      have hk : (snA s.1 i).toNat < s.2.2.length := by rw [h.fl]; omega
      rw [gD hk] at g
      have := f2 _ (List.getElem_mem hk)
      rw [e]; omega
/-- the least value of the model is that of Best -/
theorem bst_least (hF : Fit TT) (hE : shopE TT SS = 0) (h8 : TT.length ≤ 8) {l : Int} (h : LeP (vlS TT SS TT.length (begS TT SS)) l) : l = mspF TT (bstR TT SS) := by
  obtain ⟨g1, g2⟩ := bst_best hF hE h8
  have sch_of : ∀ Q, okS TT SS (begS TT SS) Q → Q.length = TT.length → Sch TT SS (runS TT (begS TT SS) Q).1 ∧ fmx (runS TT (begS TT SS) Q).2.2 = mspF TT (runS TT (begS TT SS) Q).1 := fun Q hQ hl => by
    have hP := begS_par.run hF Q hQ
    have hN : ([] ++ Q.map (fun p : Nat × Nat => p.1)).length = TT.length := by simpa using hl
    exact ⟨hP.sch hF hN, free_msp hF hP hN⟩
  obtain ⟨Q, q1, q2, q3, q4⟩ := opt_seq hF (totS TT (bstR TT SS)) g1 (Nat.le_refl _)
  have hQl : Q.length = TT.length := by simpa using q2
  obtain ⟨s1, s2⟩ := sch_of Q q1 hQl
  have hV : vlS TT SS TT.length (begS TT SS) (mspF TT (runS TT (begS TT SS) Q).1) := (vl_run hF _).2 ⟨Q, q1, hQl, s2.symm⟩
  have hle : mspF TT (runS TT (begS TT SS) Q).1 ≤ mspF TT (bstR TT SS) := by
    obtain ⟨m1, m2, -⟩ := g1.msp
    exact s1.msp_le m1 fun i hi => Int.le_trans (Int.add_le_add_right (q4 i hi) _) (m2 i hi)
  rcases h with ⟨_, h2⟩ | ⟨_, h2, h3⟩
  · exact absurd hV (h2 _)
  · refine Int.le_antisymm (Int.le_trans (h3 _ hV) hle) ?_
    obtain ⟨Q2, p1, p2, p3⟩ := (vl_run hF _).1 h2
    obtain ⟨t1, t2⟩ := sch_of Q2 p1 p2
    rw [p3, t2]; exact g2 _ t1
end
end Go.Proofs.YtnlkffccobdbjaaGreat
