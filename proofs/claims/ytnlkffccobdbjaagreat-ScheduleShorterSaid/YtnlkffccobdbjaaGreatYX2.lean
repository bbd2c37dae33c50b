/- The plain law of schedules: giving the jobs of a schedule in the order of their begin makes none later; the best schedules. No condition. -/
import Derived.Test.YtnlkffccobdbjaaGreatYX1
import Derived.Test.YtnlkffccobdbjaaGreatXN
namespace Go.Proofs.YtnlkffccobdbjaaGreat
open Go Go.RowKit Go.Dw
/-! ### Insertion sort by a key -/
section
variable {α : Type} {lt : α → α → Bool} {key : α → Int} (hk : ∀ x y, lt x y = decide (key x < key y))
include hk
theorem insR_sorted (x : α) : ∀ {R : List α}, R.Pairwise (fun a b => key b ≤ key a) → (insR lt x R).Pairwise (fun a b => key b ≤ key a)
  | [], _ => by simp [insR]
  | y :: r, h => by
    rw [List.pairwise_cons] at h
    unfold insR
    split
    · rename_i hlt
      rw [hk, decide_eq_true_eq] at hlt
      refine List.pairwise_cons.2 ⟨fun a ha => ?_, insR_sorted x h.2⟩
      rcases List.mem_cons.1 ((insR_perm lt x r).mem_iff.1 ha) with rfl | ha
      · omega
      · exact h.1 a ha
    · rename_i hlt
      rw [hk, decide_eq_true_eq] at hlt
      refine List.pairwise_cons.2 ⟨fun a ha => ?_, List.pairwise_cons.2 h⟩
      rcases List.mem_cons.1 ha with rfl | ha
      · omega
      · have := h.1 a ha; omega
theorem foldR_sorted : ∀ (L : List α) {R : List α}, R.Pairwise (fun a b => key b ≤ key a) → (L.foldl (fun R x => insR lt x R) R).Pairwise (fun a b => key b ≤ key a)
  | [], _, h => h
  | x :: L, _, h => foldR_sorted L (insR_sorted hk x h)
theorem srtI_sorted (L : List α) : (srtI lt L).Pairwise (fun a b => key a ≤ key b) := by
  unfold srtI srtR
  exact List.pairwise_reverse.2 (foldR_sorted hk L List.Pairwise.nil)
end
/-! ### The order of a schedule -/
structure Ord (N : Nat) (key : Nat → Int) (O : List Nat) : Prop where
  nd : O.Nodup
  lt : ∀ i ∈ O, i < N
  len : O.length = N
  srt : O.Pairwise (fun a b => key a ≤ key b)
theorem ex_ord (N : Nat) (key : Nat → Int) : ∃ O, Ord N key O := by
  have hp := srtI_perm (fun a b : Nat => decide (key a < key b)) (List.range N)
  exact ⟨_, hp.nodup_iff.2 List.nodup_range, fun i hi => List.mem_range.1 (hp.mem_iff.1 hi), by rw [hp.length_eq, List.length_range], srtI_sorted (fun _ _ => rfl) _⟩
def seqO (L : List Jb) (O : List Nat) : List (Nat × Nat) := O.map fun i => (i, (snA L i).toNat)
theorem seqO_fst (L : List Jb) (O : List Nat) : (seqO L O).map (·.1) = O := by unfold seqO; simp [Function.comp_def]
/-- what holds of the jobs given so far, of those of a schedule L -/
structure Low (TT : List Tk) (L : List Jb) (s : SSt) (A : List Nat) : Prop where
  sn : ∀ i ∈ A, snA s.1 i = snA L i
  le : ∀ i ∈ A, stA s.1 i ≤ stA L i
  sq : ∀ i ∈ A, ∀ j ∈ A, snA L j = snA L i → stA L j < stA L i → stA s.1 j + duA TT j ≤ stA s.1 i
  tg : ∀ i ∈ A, stA s.1 i = 0 ∨ (∃ x ∈ afA TT i, stA s.1 i = stA s.1 x.toNat + duA TT x.toNat) ∨ ∃ j ∈ A, snA L j = snA L i ∧ stA L j < stA L i ∧ stA s.1 i = stA s.1 j + duA TT j
section
variable {TT : List Tk} {SS : List Sn} {L : List Jb}
theorem Sch.apart (h : Sch TT SS L) (hF : Fit TT) {i j : Nat} (hi : i < TT.length) (hj : j < TT.length) (hij : j ≠ i) (hs : snA L j = snA L i) (hle : stA L j ≤ stA L i) : stA L j + duA TT j ≤ stA L i := by
  have := hF.d hi
  rcases h.dj j i hj hi hij hs with h | h <;> omega
theorem Low.step (hF : Fit TT) (hL : Sch TT SS L) {s : SSt} {A : List Nat} (hP : Par TT SS s A) (h : Low TT L s A) {i : Nat} (hi : i < TT.length) (hA : i ∉ A) (hb : ∀ a ∈ A, stA L a ≤ stA L i) (hc : ∀ a, a < TT.length → a ∉ A → stA L i ≤ stA L a) :
    (opnF TT s.2.1 i = true ∧ caA TT SS i (snA L i).toNat = true) ∧ Low TT L (jbS TT s i (snA L i).toNat) (A ++ [i]) := by
  have hst := hL.st i hi
  have hk : (snA L i).toNat < SS.length := by omega
  have hkk : (((snA L i).toNat : Nat) : Int) = snA L i := by omega
  have ho : opnF TT s.2.1 i = true := (hP.opn hF hi).2 ⟨hA, fun x hx => Classical.byContradiction fun hn => by
    have hx2 := hF.a hi x hx
    have h1 := hL.pr i hi x hx
    have h2 := hF.d (i := x.toNat) (by omega)
    have h3 := hc x.toNat (by omega) hn
    omega⟩
  obtain ⟨t1, t2, t3, t4, t5⟩ := hP.t0 hF hi hk ho
  obtain ⟨e1, e2, e3⟩ := stp_same (TT := TT) (k := (snA L i).toNat) hP.jl hi
  have ne : ∀ {a : Nat}, a ∈ A → a ≠ i := fun ha e => hA (e ▸ ha)
  have oth := fun {a : Nat} (ha : a ∈ A) => stp_other (TT := TT) (k := (snA L i).toNat) hP.jl hi (ne ha)
  have mem : ∀ {a : Nat}, a ∈ A ++ [i] → a ∈ A ∨ a = i := fun ha => by simpa using ha
  have o2 := ((hP.opn hF hi).1 ho).2
  have hlt : ∀ j ∈ A, snA L j = snA L i → stA L j < stA L i := fun j hj e => by
    have := hL.apart hF hi (hP.lt j hj) (ne hj) e (hb j hj)
    have := hF.d (hP.lt j hj); omega
  refine ⟨⟨ho, hL.can i hi⟩, fun a ha => ?_, fun a ha => ?_, fun a ha b hb' hs hl => ?_, fun a ha => ?_⟩
  · rcases mem ha with ha | rfl
    · rw [(oth ha).2.1]; exact h.sn a ha
    · rw [e2]; exact hkk
  · rcases mem ha with ha | rfl
    · rw [(oth ha).1]; exact h.le a ha
    · rw [e1]
      rcases t5 with t5 | ⟨x, hx, t5⟩ | ⟨j, hj, t5, t6⟩
      · have := hL.s0 _ hi; omega
      · have h1 := hL.pr _ hi x hx
        have h2 := h.le _ (o2 x hx); omega
      · have h1 := h.sn j hj
        have h2 := hL.apart hF hi (hP.lt j hj) (ne hj) (by omega) (hb j hj)
        have h3 := h.le j hj; omega
  · rcases mem ha with ga | rfl <;> rcases mem hb' with gb | rfl
    · rw [(oth ga).1, (oth gb).1]; exact h.sq a ga b gb hs hl
    · have := hb a ga; omega
    · rw [e1, (oth gb).1]
      have := hP.fe b gb
      rw [h.sn b gb, hs] at this; omega
    · omega
  · rcases mem ha with ha | rfl
    · rw [(oth ha).1]
      rcases h.tg a ha with g | ⟨x, hx, g⟩ | ⟨j, hj, g1, g2, g3⟩
      · exact .inl g
      · exact .inr (.inl ⟨x, hx, by rw [(oth (hP.pr a ha x hx).1).1]; exact g⟩)
      · exact .inr (.inr ⟨j, by simp [hj], g1, g2, by rw [(oth hj).1]; exact g3⟩)
    · rw [e1]
      rcases t5 with t5 | ⟨x, hx, t5⟩ | ⟨j, hj, t5, t6⟩
      · exact .inl t5
      · exact .inr (.inl ⟨x, hx, by rw [(oth (o2 x hx)).1]; exact t5⟩)
      · have h1 := h.sn j hj
        exact .inr (.inr ⟨j, by simp [hj], by omega, hlt j hj (by omega), by rw [(oth hj).1]; exact t6⟩)
theorem Low.run (hF : Fit TT) (hL : Sch TT SS L) : ∀ (O : List Nat) {s : SSt} {A : List Nat}, Par TT SS s A → Low TT L s A → Ord TT.length (stA L) (A ++ O) →
    okS TT SS s (seqO L O) ∧ Low TT L (runS TT s (seqO L O)) (A ++ O)
  | [], s, A, _, h, _ => ⟨trivial, by simpa [seqO, runS] using h⟩
  | i :: O, s, A, hP, h, hO => by
    have hnd := List.nodup_append.1 hO.nd
    have hsr := List.pairwise_append.1 hO.srt
    have hsr2 := List.pairwise_cons.1 hsr.2.1
    have hi := hO.lt i (by simp)
    have hA : i ∉ A := fun hm => hnd.2.2 i hm i (by simp) rfl
    obtain ⟨⟨o1, o2⟩, h2⟩ := h.step hF hL hP hi hA (fun a ha => hsr.2.2 a ha i (by simp)) (fun a ha hn => by
      have := all_in hO.nd hO.lt hO.len ha
      rcases List.mem_append.1 this with hm | hm
      · exact absurd hm hn
      · rcases List.mem_cons.1 hm with rfl | hm
        · exact Int.le_refl _
        · exact hsr2.1 a hm)
    have hst := hL.st i hi
    have hk : (snA L i).toNat < SS.length := by omega
    have hO2 : Ord TT.length (stA L) ((A ++ [i]) ++ O) := by rw [List.append_assoc]; exact hO
    obtain ⟨h3, h4⟩ := Low.run hF hL O (hP.step hF hi hk o1 o2) h2 hO2
    exact ⟨⟨⟨hi, hk, o1, o2⟩, h3⟩, by simpa [seqO, runS] using h4⟩
theorem Low.nil (s : SSt) : Low TT L s [] := ⟨nofun, nofun, nofun, nofun⟩
def begS (TT : List Tk) (SS : List Sn) : SSt := (List.replicate TT.length (0, 0, 0), List.replicate TT.length false, List.replicate SS.length 0)
theorem begS_par : Par TT SS (begS TT SS) [] := Par.nil List.length_replicate
theorem run_keep (hF : Fit TT) : ∀ (Q : List (Nat × Nat)) {s : SSt} {A : List Nat}, Par TT SS s A → okS TT SS s Q → ∀ a ∈ A, jbA (runS TT s Q).1 a = jbA s.1 a
  | [], _, _, _, _, _, _ => rfl
  | p :: Q, s, A, h, ⟨⟨h1, h2, h3, h4⟩, h5⟩, a, ha => by
    have := run_keep hF Q (h.step hF h1 h2 h3 h4) h5 a (by simp [ha])
    show jbA (runS TT (jbS TT s p.1 p.2) Q).1 a = _
    rw [this]
    refine (stp_other (TT := TT) (k := p.2) h.jl h1 fun e => ?_).2.2
    subst e
    exact ((h.opn hF h1).1 h3).1 ha
theorem inc_of (hF : Fit TT) : ∀ (Q : List (Nat × Nat)) {s : SSt} {A : List Nat} {last : Int}, Par TT SS s A → okS TT SS s Q → (Q.map (·.1)).Pairwise (fun a b => stA (runS TT s Q).1 a ≤ stA (runS TT s Q).1 b) → (∀ p ∈ Q, last ≤ stA (runS TT s Q).1 p.1) → incS TT s last Q
  | [], _, _, _, _, _, _, _ => trivial
  | p :: Q, s, A, last, h, ⟨⟨h1, h2, h3, h4⟩, h5⟩, hp, hl => by
    have hP := h.step hF h1 h2 h3 h4
    have e := run_keep hF Q hP h5 p.1 (by simp)
    have e2 : stA (runS TT s (p :: Q)).1 p.1 = t0A TT s p.1 p.2 := by
      show (jbA (runS TT (jbS TT s p.1 p.2) Q).1 p.1).2.2 = _
      rw [e]; exact (stp_same (TT := TT) (k := p.2) h.jl h1).1
    rw [List.map_cons, List.pairwise_cons] at hp
    refine ⟨by rw [← e2]; exact hl p (by simp), inc_of hF Q hP h5 hp.2 fun q hq => ?_⟩
    rw [← e2]
    exact hp.1 q.1 (List.mem_map.2 ⟨q, hq, rfl⟩)
def totS (TT : List Tk) (L : List Jb) : Nat := ((List.range TT.length).map fun i => (stA L i).toNat).sum
theorem mem_le_sum {x : Nat} : ∀ {l : List Nat}, x ∈ l → x ≤ l.sum
  | y :: l, h => by
    rw [List.sum_cons]
    rcases List.mem_cons.1 h with rfl | h
    · omega
    · have := mem_le_sum h; omega
theorem sum_le {f g : Nat → Nat} : ∀ {l : List Nat}, (∀ i ∈ l, f i ≤ g i) → (l.map f).sum ≤ (l.map g).sum
  | [], _ => Nat.le_refl _
  | x :: l, h => by
    have := sum_le (l := l) fun i hi => h i (by simp [hi])
    have := h x (by simp)
    simp only [List.map_cons, List.sum_cons]; omega
theorem sum_lt {f g : Nat → Nat} : ∀ {l : List Nat}, (∀ i ∈ l, f i ≤ g i) → ∀ j ∈ l, f j < g j → (l.map f).sum < (l.map g).sum
  | x :: l, h, j, hj, hlt => by
    have h1 := sum_le (l := l) fun i hi => h i (by simp [hi])
    have h2 := h x (by simp)
    simp only [List.map_cons, List.sum_cons]
    rcases List.mem_cons.1 hj with rfl | hj
    · omega
    · have := sum_lt (l := l) (fun i hi => h i (by simp [hi])) j hj hlt; omega
/-- a schedule's jobs can be given in an order in which none begins before one given earlier, and none begins later than in the schedule -/
theorem opt_seq (hF : Fit TT) : ∀ (m : Nat) {L : List Jb}, Sch TT SS L → totS TT L ≤ m → ∃ Q, okS TT SS (begS TT SS) Q ∧ (Q.map (·.1)).length = TT.length ∧ incS TT (begS TT SS) 0 Q ∧ ∀ i, i < TT.length → stA (runS TT (begS TT SS) Q).1 i ≤ stA L i := by
  intro m
  induction m with
  | zero =>
    intro L hL hm
    obtain ⟨O, hO⟩ := ex_ord TT.length (stA L)
    obtain ⟨h1, h2⟩ := Low.run hF hL O begS_par (Low.nil _) (by simpa using hO)
    have hP := begS_par.run hF _ h1
    have hall := fun {i : Nat} (hi : i < TT.length) => all_in hO.nd hO.lt hO.len hi
    simp only [List.nil_append] at h2
    have z : ∀ i, i < TT.length → stA L i = 0 := fun i hi => by
      have h0 := hL.s0 i hi
      have : (stA L i).toNat ≤ totS TT L := mem_le_sum (List.mem_map.2 ⟨i, List.mem_range.2 hi, rfl⟩)
      omega
    have hS := hP.sch hF (by simpa [seqO_fst] using hO.len)
    have hall2 : ∀ i, i < TT.length → stA (runS TT (begS TT SS) (seqO L O)).1 i = 0 := fun i hi => by
      have := h2.le i (hall hi); have := hS.s0 i hi; have := z i hi; omega
    refine ⟨seqO L O, h1, by rw [seqO_fst]; exact hO.len, inc_of hF _ begS_par h1 ?_ fun p hp => ?_, fun i hi => h2.le i (hall hi)⟩
    · rw [seqO_fst]
      exact hO.srt.imp_of_mem fun {a b} ha hb _ => by rw [hall2 a (hO.lt a ha), hall2 b (hO.lt b hb)]; exact Int.le_refl _
    · obtain ⟨i, hi, rfl⟩ := List.mem_map.1 hp
      rw [hall2 i (hO.lt i hi)]; exact Int.le_refl _
  | succ m ih =>
    intro L hL hm
    obtain ⟨O, hO⟩ := ex_ord TT.length (stA L)
    obtain ⟨h1, h2⟩ := Low.run hF hL O begS_par (Low.nil _) (by simpa using hO)
    have hP := begS_par.run hF _ h1
    have hall := fun {i : Nat} (hi : i < TT.length) => all_in hO.nd hO.lt hO.len hi
    simp only [List.nil_append] at h2
    have hS := hP.sch hF (by simpa [seqO_fst] using hO.len)
    by_cases hE : ∀ i, i < TT.length → stA (runS TT (begS TT SS) (seqO L O)).1 i = stA L i
    · refine ⟨seqO L O, h1, by rw [seqO_fst]; exact hO.len, inc_of hF _ begS_par h1 ?_ fun p hp => ?_, fun i hi => h2.le i (hall hi)⟩
      · rw [seqO_fst]
        exact hO.srt.imp_of_mem fun {a b} ha hb h => by rw [hE a (hO.lt a ha), hE b (hO.lt b hb)]; exact h
      · obtain ⟨i, hi, rfl⟩ := List.mem_map.1 hp
        exact (hS.s0 i (hO.lt i hi)).1
    · have hex : ∃ i, i < TT.length ∧ stA (runS TT (begS TT SS) (seqO L O)).1 i ≠ stA L i := Classical.byContradiction fun h => hE fun i hi => Classical.byContradiction fun h' => h ⟨i, hi, h'⟩
      obtain ⟨i, hi, hne⟩ := hex
      have hlt : totS TT (runS TT (begS TT SS) (seqO L O)).1 < totS TT L := by
        refine sum_lt (fun j hj => ?_) i (List.mem_range.2 hi) ?_
        · have := h2.le j (hall (List.mem_range.1 hj)); omega
        · have := h2.le i (hall hi); have := hS.s0 i hi; omega
      obtain ⟨Q, q1, q2, q3, q4⟩ := ih hS (by omega)
      exact ⟨Q, q1, q2, q3, fun j hj => Int.le_trans (q4 j hj) (h2.le j (hall hj))⟩
theorem msp_fold {TT : List Tk} : ∀ (L : List Jb) (m : Int), m ≤ L.foldl (fun m j => max m (endF TT j)) m ∧ (∀ j ∈ L, endF TT j ≤ L.foldl (fun m j => max m (endF TT j)) m) ∧ (L.foldl (fun m j => max m (endF TT j)) m = m ∨ ∃ j ∈ L, L.foldl (fun m j => max m (endF TT j)) m = endF TT j)
  | [], m => ⟨Int.le_refl _, nofun, .inl rfl⟩
  | y :: A, m => by
    obtain ⟨h1, h2, h3⟩ := msp_fold (TT := TT) A (max m (endF TT y))
    rw [List.foldl_cons]
    refine ⟨by omega, fun x hx => ?_, ?_⟩
    · rcases List.mem_cons.1 hx with rfl | hx
      · omega
      · exact h2 x hx
    · rcases h3 with h3 | ⟨x, hx, h3⟩
      · rw [h3]
        rcases Int.le_total (endF TT y) m with h | h
        · left; omega
        · right; exact ⟨y, List.mem_cons_self, by omega⟩
      · exact .inr ⟨x, List.mem_cons_of_mem _ hx, h3⟩
theorem Sch.msp (h : Sch TT SS L) : 0 ≤ mspF TT L ∧ (∀ i, i < TT.length → stA L i + duA TT i ≤ mspF TT L) ∧ (mspF TT L = 0 ∨ ∃ i, i < TT.length ∧ mspF TT L = stA L i + duA TT i) := by
  obtain ⟨h1, h2, h3⟩ := msp_fold (TT := TT) L 0
  have get : ∀ i, (hi : i < TT.length) → jbA L i = L[i]'(by rw [h.len]; exact hi) := fun i hi => gD (by rw [h.len]; exact hi)
  refine ⟨h1, fun i hi => ?_, ?_⟩
  · rw [← end_eq (h.tk i hi), get i hi]; exact h2 _ (List.getElem_mem _)
  · rcases h3 with h3 | ⟨j, hj, h3⟩
    · exact .inl h3
    · obtain ⟨i, hi, rfl⟩ := List.mem_iff_getElem.1 hj
      have hi' : i < TT.length := by rw [← h.len]; exact hi
      exact .inr ⟨i, hi', by rw [← end_eq (h.tk i hi'), get i hi']; exact h3⟩
theorem Sch.msp_le (h : Sch TT SS L) {b : Int} (h0 : 0 ≤ b) (hb : ∀ i, i < TT.length → stA L i + duA TT i ≤ b) : mspF TT L ≤ b := by
  rcases h.msp.2.2 with e | ⟨i, hi, e⟩
  · omega
  · rw [e]; exact hb i hi
end
end Go.Proofs.YtnlkffccobdbjaaGreat
