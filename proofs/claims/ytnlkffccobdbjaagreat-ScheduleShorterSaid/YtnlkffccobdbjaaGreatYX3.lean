/- The plain law of the search for a best schedule. No condition. -/
import Derived.Test.YtnlkffccobdbjaaGreatYX2
namespace Go.Proofs.YtnlkffccobdbjaaGreat
open Go Go.RowKit Go.Dw
def alikF (SS : List Sn) (s : SSt) (k : Nat) : Bool := (List.range k).any fun j => decide (s.2.2.getD j 0 = s.2.2.getD k 0) && decide ((SS.getD j default).ts = (SS.getD k default).ts)
def rnK (TT : List Tk) (SS : List Sn) (T : List Int) (lower : Int) (f : SSt → Int → Int × List Jb → Int × List Jb) (s : SSt) (last : Int) (i : Nat) (x : Int × List Jb) (k : Nat) : Int × List Jb :=
  if (!caA TT SS i k || alikF SS s k || decide (x.1 = lower)) = true then x else if t0A TT s i k < last ∨ x.1 ≤ t0A TT s i k + T.getD i 0 then x else f (jbS TT s i k) (t0A TT s i k) x
def rnI (TT : List Tk) (SS : List Sn) (T : List Int) (lower : Int) (f : SSt → Int → Int × List Jb → Int × List Jb) (s : SSt) (last : Int) (x : Int × List Jb) (i : Nat) : Int × List Jb :=
  if opnF TT s.2.1 i = true then (List.range SS.length).foldl (rnK TT SS T lower f s last i) x else x
def runF (TT : List Tk) (SS : List Sn) (T : List Int) (lower : Int) : Nat → SSt → Int → Int × List Jb → Int × List Jb
  | 0, s, _, x => if mspF TT s.1 < x.1 then (mspF TT s.1, s.1) else x
  | m + 1, s, last, x => (List.range TT.length).foldl (rnI TT SS T lower (runF TT SS T lower m) s last) x
theorem fold_le {β : Type} {f : Int × β → Nat → Int × β} (hf : ∀ x i, (f x i).1 ≤ x.1) : ∀ (l : List Nat) (x : Int × β), (l.foldl f x).1 ≤ x.1
  | [], x => Int.le_refl _
  | i :: l, x => Int.le_trans (fold_le hf l (f x i)) (hf x i)
theorem fold_hit {β : Type} {f : Int × β → Nat → Int × β} {M : Int} (hf : ∀ x i, (f x i).1 ≤ x.1) {i : Nat} (h : ∀ x, (f x i).1 ≤ M) : ∀ {l : List Nat} (x : Int × β), i ∈ l → (l.foldl f x).1 ≤ M
  | j :: l, x, hi => by
    rw [List.foldl_cons]
    rcases List.mem_cons.1 hi with rfl | hi
    · exact Int.le_trans (fold_le hf l _) (h x)
    · exact fold_hit hf h _ hi
theorem fold_inv {β : Type} {f : Int × β → Nat → Int × β} {I : Int × β → Prop} : ∀ {l : List Nat} {x : Int × β}, (∀ i ∈ l, ∀ x, I x → I (f x i)) → I x → I (l.foldl f x)
  | [], _, _, hx => hx
  | i :: l, x, h, hx => fold_inv (l := l) (fun j hj => h j (by simp [hj])) (h i (by simp) x hx)
section
variable {TT : List Tk} {SS : List Sn} {T : List Int} {lower : Int}
theorem rnK_le {f : SSt → Int → Int × List Jb → Int × List Jb} (hf : ∀ s l x, (f s l x).1 ≤ x.1) (s : SSt) (last : Int) (i : Nat) (x : Int × List Jb) (k : Nat) : (rnK TT SS T lower f s last i x k).1 ≤ x.1 := by
  unfold rnK
  split
  · exact Int.le_refl _
  · split
    · exact Int.le_refl _
    · exact hf _ _ _
theorem rnI_le {f : SSt → Int → Int × List Jb → Int × List Jb} (hf : ∀ s l x, (f s l x).1 ≤ x.1) (s : SSt) (last : Int) (x : Int × List Jb) (i : Nat) : (rnI TT SS T lower f s last x i).1 ≤ x.1 := by
  unfold rnI
  split
  · exact fold_le (fun x k => rnK_le hf s last i x k) _ _
  · exact Int.le_refl _
theorem runF_le : ∀ (m : Nat) (s : SSt) (last : Int) (x : Int × List Jb), (runF TT SS T lower m s last x).1 ≤ x.1 := by
  intro m
  induction m with
  | zero =>
    intro s last x
    unfold runF
    split
    · dsimp only; omega
    · exact Int.le_refl _
  | succ m ih => intro s last x; exact fold_le (fun x i => rnI_le ih s last x i) _ _
def Good1 (TT : List Tk) (SS : List Sn) (x : Int × List Jb) : Prop := Sch TT SS x.2 ∧ mspF TT x.2 = x.1
theorem runF_ok (hF : Fit TT) : ∀ (m : Nat) {s : SSt} {A : List Nat} (last : Int) {x : Int × List Jb}, Par TT SS s A → A.length + m = TT.length → Good1 TT SS x → Good1 TT SS (runF TT SS T lower m s last x)
  | 0, s, A, last, x, hP, hA, hx => by
    unfold runF
    split
    · exact ⟨hP.sch hF (by omega), rfl⟩
    · exact hx
  | m + 1, s, A, last, x, hP, hA, hx => by
    unfold runF
    refine fold_inv (fun i hi x hx => ?_) hx
    have hi := List.mem_range.1 hi
    unfold rnI
    split
    · rename_i ho
      refine fold_inv (fun k hk x hx => ?_) hx
      have hk := List.mem_range.1 hk
      unfold rnK
      split
      · exact hx
      · rename_i hc
        split
        · exact hx
        · have hc : caA TT SS i k = true := by
            cases h : caA TT SS i k with
            | true => rfl
            | false => rw [h] at hc; exact absurd rfl hc
          exact runF_ok hF m _ (hP.step hF hi hk ho hc) (by simp; omega) hx
    · exact hx
/-! ### Stations that are alike -/
def swp (a b k : Nat) : Nat := if k = a then b else if k = b then a else k
structure Sw (TT : List Tk) (SS : List Sn) (a b : Nat) (s s' : SSt) : Prop where
  jl : s.1.length = TT.length ∧ s'.1.length = TT.length
  fl : s.2.2.length = SS.length ∧ s'.2.2.length = SS.length
  d : s'.2.1 = s.2.1
  j : ∀ i, endF TT (jbA s'.1 i) = endF TT (jbA s.1 i)
  f : ∀ k, k < SS.length → s'.2.2.getD (swp a b k) 0 = s.2.2.getD k 0
theorem swp_lt {a b k n : Nat} (ha : a < n) (hb : b < n) (hk : k < n) : swp a b k < n := by
  unfold swp
  split
  · exact hb
  · split
    · exact ha
    · exact hk
theorem swp_swp (a b k : Nat) : swp a b (swp a b k) = k := by
  unfold swp
  by_cases h1 : k = a
  · subst h1
    rw [if_pos rfl]
    by_cases h2 : b = k
    · rw [if_pos h2, h2]
    · rw [if_neg h2, if_pos rfl]
  · rw [if_neg h1]
    by_cases h2 : k = b
    · subst h2; rw [if_pos rfl, if_pos rfl]
    · rw [if_neg h2, if_neg h1, if_neg h2]
theorem swp_inj {a b k j : Nat} (h : swp a b k = swp a b j) : k = j := by rw [← swp_swp a b k, h, swp_swp]
theorem fold_ext {f g : Int → Int} : ∀ (A : List Int) (m : Int), (∀ x ∈ A, f x = g x) → A.foldl (fun t k => max t (f k)) m = A.foldl (fun t k => max t (g k)) m
  | [], _, _ => rfl
  | x :: A, m, h => by
    rw [List.foldl_cons, List.foldl_cons, h x (by simp)]
    exact fold_ext A _ fun y hy => h y (by simp [hy])
theorem Sw.t0 {a b : Nat} {s s' : SSt} (h : Sw TT SS a b s s') (i : Nat) {k : Nat} (hk : k < SS.length) : t0A TT s' i (swp a b k) = t0A TT s i k := by
  have e1 : rdyJ TT s'.1 i = rdyJ TT s.1 i := fold_ext _ _ fun x _ => h.j x.toNat
  show max (s'.2.2.getD (swp a b k) 0) (rdyJ TT s'.1 i) = max (s.2.2.getD k 0) (rdyJ TT s.1 i)
  rw [e1, h.f k hk]
theorem Sw.stp {a b : Nat} (ha : a < SS.length) (hb : b < SS.length) {s s' : SSt} (h : Sw TT SS a b s s') {i k : Nat} (hi : i < TT.length) (hk : k < SS.length) : Sw TT SS a b (jbS TT s i k) (jbS TT s' i (swp a b k)) := by
  have e := h.t0 i hk
  refine ⟨⟨?_, ?_⟩, ⟨?_, ?_⟩, ?_, fun j => ?_, fun j hj => ?_⟩
  · show (putJ TT s.1 s.2.2 i k).length = _
    unfold putJ; rw [List.length_set]; exact h.jl.1
  · show (putJ TT s'.1 s'.2.2 i _).length = _
    unfold putJ; rw [List.length_set]; exact h.jl.2
  · show (putF TT s.1 s.2.2 i k).length = _
    unfold putF; rw [List.length_set]; exact h.fl.1
  · show (putF TT s'.1 s'.2.2 i _).length = _
    unfold putF; rw [List.length_set]; exact h.fl.2
  · show s'.2.1.set i true = s.2.1.set i true
    rw [h.d]
  · rw [stp_jb h.jl.1 hi, stp_jb h.jl.2 hi]
    split
    · rw [e]; rfl
    · exact h.j j
  · rw [stp_free h.fl.1 hk, stp_free h.fl.2 (swp_lt ha hb hk), e]
    by_cases hkj : k = j
    · rw [if_pos hkj, if_pos (by rw [hkj])]
    · rw [if_neg hkj, if_neg (fun hh => hkj (swp_inj hh))]
      exact h.f j hj
def swQ (a b : Nat) (Q : List (Nat × Nat)) : List (Nat × Nat) := Q.map fun p => (p.1, swp a b p.2)
theorem Sw.run {a b : Nat} (ha : a < SS.length) (hb : b < SS.length) (ht : (SS.getD a default).ts = (SS.getD b default).ts) : ∀ (Q : List (Nat × Nat)) {s s' : SSt} {last : Int}, Sw TT SS a b s s' → okS TT SS s Q → incS TT s last Q →
    okS TT SS s' (swQ a b Q) ∧ incS TT s' last (swQ a b Q) ∧ Sw TT SS a b (runS TT s Q) (runS TT s' (swQ a b Q))
  | [], _, _, _, h, _, _ => ⟨trivial, trivial, h⟩
  | p :: Q, s, s', last, h, ⟨⟨h1, h2, h3, h4⟩, h5⟩, ⟨h6, h7⟩ => by
    have e := h.t0 p.1 h2
    obtain ⟨r1, r2, r3⟩ := Sw.run ha hb ht Q (h.stp ha hb h1 h2) h5 h7
    have hc : caA TT SS p.1 (swp a b p.2) = caA TT SS p.1 p.2 := by
      have can : ∀ k j, (SS.getD k default).ts = (SS.getD j default).ts → caA TT SS p.1 k = caA TT SS p.1 j := fun k j hk => by
        unfold caA canS; rw [hk]
      unfold swp
      split
      · rename_i e; rw [e]; exact can _ _ ht.symm
      · split
        · rename_i e; rw [e]; exact can _ _ ht
        · rfl
    exact ⟨⟨⟨h1, swp_lt ha hb h2, by rw [h.d]; exact h3, hc.trans h4⟩, r1⟩, ⟨by rw [show t0A TT s' (p.1, swp a b p.2).1 (p.1, swp a b p.2).2 = t0A TT s p.1 p.2 from e]; exact h6, by rw [show t0A TT s' (p.1, swp a b p.2).1 (p.1, swp a b p.2).2 = t0A TT s p.1 p.2 from e]; exact r2⟩, r3⟩
theorem fold_end {TT : List Tk} : ∀ {L L' : List Jb} (m : Int), L.length = L'.length → (∀ i, endF TT (jbA L' i) = endF TT (jbA L i)) → L'.foldl (fun m j => max m (endF TT j)) m = L.foldl (fun m j => max m (endF TT j)) m
  | [], [], _, _, _ => rfl
  | x :: L, y :: L', m, hl, h => by
    have h0 : endF TT y = endF TT x := h 0
    rw [List.foldl_cons, List.foldl_cons, h0]
    exact fold_end _ (by simpa using hl) fun i => h (i + 1)
theorem Sw.msp {a b : Nat} {s s' : SSt} (h : Sw TT SS a b s s') : mspF TT s'.1 = mspF TT s.1 := fold_end 0 (h.jl.1.trans h.jl.2.symm) h.j
theorem Sw.refl {a b : Nat} {s : SSt} (hj : s.1.length = TT.length) (hf : s.2.2.length = SS.length) (e : s.2.2.getD a 0 = s.2.2.getD b 0) : Sw TT SS a b s s := by
  refine ⟨⟨hj, hj⟩, ⟨hf, hf⟩, rfl, fun _ => rfl, fun k hk => ?_⟩
  unfold swp
  split
  · rename_i h; rw [h, e]
  · split
    · rename_i h; rw [h, e]
    · rfl
/-- the first job can be given to a station that no earlier one is like -/
theorem swap_first {s : SSt} {A : List Nat} (hP : Par TT SS s A) {i : Nat} {last : Int} : ∀ (k : Nat) {Q : List (Nat × Nat)}, okS TT SS s ((i, k) :: Q) → incS TT s last ((i, k) :: Q) →
    ∃ k' Q', alikF SS s k' = false ∧ okS TT SS s ((i, k') :: Q') ∧ incS TT s last ((i, k') :: Q') ∧ Q'.length = Q.length ∧ mspF TT (runS TT s ((i, k') :: Q')).1 = mspF TT (runS TT s ((i, k) :: Q)).1 := by
  intro k
  induction k using Nat.strongRecOn with
  | ind k ih =>
    intro Q ho hi
    cases ha : alikF SS s k with
    | false => exact ⟨k, Q, ha, ho, hi, rfl, rfl⟩
    | true =>
      unfold alikF at ha
      obtain ⟨j, hj, h⟩ := List.any_eq_true.1 ha
      have hj := List.mem_range.1 hj
      rw [Bool.and_eq_true, decide_eq_true_eq, decide_eq_true_eq] at h
      have hk : k < SS.length := ho.1.2.1
      obtain ⟨r1, r2, r3⟩ := Sw.run (by omega) hk h.2 ((i, k) :: Q) (Sw.refl (a := j) (b := k) hP.jl hP.fl h.1) ho hi
      have e : swQ j k ((i, k) :: Q) = (i, j) :: swQ j k Q := by
        show (i, swp j k k) :: _ = _
        unfold swp; rw [if_neg (by omega), if_pos rfl]; rfl
      rw [e] at r1 r2 r3
      obtain ⟨k', Q', q1, q2, q3, q4, q5⟩ := ih j hj r1 r2
      exact ⟨k', Q', q1, q2, q3, by rw [q4]; unfold swQ; simp, q5.trans r3.msp⟩
theorem runF_opt (hF : Fit TT) (hlow : ∀ L, Sch TT SS L → lower ≤ mspF TT L) (htl : ∀ L, Sch TT SS L → ∀ i, i < TT.length → stA L i + T.getD i 0 ≤ mspF TT L) :
    ∀ (m : Nat) {s : SSt} {A : List Nat} {last : Int} (x : Int × List Jb) {Q : List (Nat × Nat)}, Par TT SS s A → A.length + m = TT.length → Q.length = m → okS TT SS s Q → incS TT s last Q →
      (runF TT SS T lower m s last x).1 ≤ mspF TT (runS TT s Q).1 := by
  intro m
  induction m with
  | zero =>
    intro s A last x Q hP hA hQ ho hi
    obtain rfl := List.eq_nil_of_length_eq_zero hQ
    unfold runF
    show _ ≤ mspF TT s.1
    split
    · exact Int.le_refl _
    · omega
  | succ m ih =>
    intro s A last x Q hP hA hQ ho hi
    obtain ⟨⟨i, k⟩, Q, rfl⟩ : ∃ p Q', Q = p :: Q' := by cases Q with | nil => cases hQ | cons p Q => exact ⟨p, Q, rfl⟩
    obtain ⟨k', Q', q1, q2, q3, q4, q5⟩ := swap_first hP k ho hi
    rw [← q5]
    clear ho hi q5
    obtain ⟨⟨h1, h2, h3, h4⟩, h5⟩ := q2
    obtain ⟨h6, h7⟩ := q3
    dsimp only at h1 h2 h3 h4 h5 h6 h7
    have hP2 := hP.step hF h1 h2 h3 h4
    have hPe := hP2.run hF Q' h5
    have hlen : Q'.length = m := by rw [q4]; simpa using hQ
    have hS : Sch TT SS (runS TT s ((i, k') :: Q')).1 := hPe.sch hF (by simp; omega)
    have hst : stA (runS TT s ((i, k') :: Q')).1 i = t0A TT s i k' := by
      have e := run_keep hF Q' hP2 h5 i (by simp)
      show (jbA (runS TT (jbS TT s i k') Q').1 i).2.2 = _
      rw [e]; exact (stp_same (TT := TT) (k := k') hP.jl h1).1
    have hL := hlow _ hS
    have hT := htl _ hS i h1
    rw [hst] at hT
    unfold runF
    refine fold_hit (fun x i => rnI_le (runF_le m) s last x i) (i := i) (fun x => ?_) x (List.mem_range.2 h1)
    unfold rnI
    rw [if_pos h3]
    refine fold_hit (fun x k => rnK_le (runF_le m) s last i x k) (i := k') (fun x => ?_) x (List.mem_range.2 h2)
    unfold rnK
    rw [h4, q1]
    by_cases he : x.1 = lower
    · rw [if_pos (by simp [he])]; omega
    · rw [if_neg (by simp [he])]
      split
      · rename_i hc
        rcases hc with hc | hc
        · omega
        · exact Int.le_trans hc hT
      · exact ih _ hP2 (by simp; omega) hlen h5 h7
/-- the search finds a best schedule -/
theorem best_opt (hF : Fit TT) (hlow : ∀ L, Sch TT SS L → lower ≤ mspF TT L) (htl : ∀ L, Sch TT SS L → ∀ i, i < TT.length → stA L i + T.getD i 0 ≤ mspF TT L) {L0 : List Jb} (h0 : Sch TT SS L0) :
    Good1 TT SS (runF TT SS T lower TT.length (begS TT SS) 0 (mspF TT L0, L0)) ∧ ∀ L, Sch TT SS L → (runF TT SS T lower TT.length (begS TT SS) 0 (mspF TT L0, L0)).1 ≤ mspF TT L := by
  refine ⟨runF_ok hF _ _ begS_par (by simp) ⟨h0, rfl⟩, fun L hL => ?_⟩
  obtain ⟨Q, q1, q2, q3, q4⟩ := opt_seq hF (totS TT L) hL (Nat.le_refl _)
  refine Int.le_trans (runF_opt hF hlow htl TT.length _ begS_par (by simp) (by simpa using q2) q1 q3) ?_
  have hP := begS_par.run hF Q q1
  have hS := hP.sch hF (by simpa using q2)
  obtain ⟨m1, m2, -⟩ := hL.msp
  exact hS.msp_le m1 fun i hi => Int.le_trans (Int.add_le_add_right (q4 i hi) _) (m2 i hi)
end
end Go.Proofs.YtnlkffccobdbjaaGreat
