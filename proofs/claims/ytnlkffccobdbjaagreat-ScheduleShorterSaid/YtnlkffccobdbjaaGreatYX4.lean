/- The plain law of schedule.Check and Early: what Check accepts are the schedules; the order of the jobs. No condition. -/
import Derived.Test.YtnlkffccobdbjaaGreatYX3
import Derived.Test.YtnlkffccobdbjaaGreatYWq
namespace Go.Proofs.YtnlkffccobdbjaaGreat
open Go Go.RowKit Go.Dw
theorem first_getD {f : Nat → Int} {n : Nat} : (firstE f n).getD 0 = 0 ↔ ∀ j, j < n → f j = 0 := by
  constructor
  · intro h
    cases he : firstE f n with
    | none => exact first_zero he
    | some e => rw [he] at h; exact absurd h (first_ne he)
  · intro h; rw [firstE_none h]; rfl
section
variable {TT : List Tk} {SS : List Sn} {L : List Jb}
theorem sch_iff (hF : Fit TT) : schE TT SS L = 0 ↔ Sch TT SS L := by
  constructor
  · intro h
    unfold schE at h
    split at h
    · cases h
    rename_i hlen
    have hlen : L.length = TT.length := by omega
    split at h
    · rename_i e he; exact absurd h (first_ne he)
    rename_i he
    have h1 := fun i hi => jobE_ok (first_zero he i hi)
    have h2 := first_getD.1 h
    have hend : ∀ i : Nat, i < TT.length → endF TT (jbA L i) = stA L i + duA TT i := fun i hi => end_eq (h1 i hi).1
    have hc : ∀ i, i < TT.length → (∀ k, k < i → snA L k = snA L i → stA L i + duA TT i ≤ stA L k ∨ stA L k + duA TT k ≤ stA L i) ∧ ∀ x ∈ afA TT i, stA L x.toNat + duA TT x.toNat ≤ stA L i := fun i hi => by
      have hz := h2 i hi
      unfold cnfE at hz
      split at hz
      · cases hz
      rename_i g1
      split at hz
      · cases hz
      rename_i g2
      refine ⟨fun k hk hs => Classical.byContradiction fun hn => g1 ?_, fun x hx => Classical.byContradiction fun hn => g2 ?_⟩
      · have hkL : k < L.length := by omega
        refine List.any_eq_true.2 ⟨L[k], ?_, ?_⟩
        · rw [← List.getElem_take (i := k) (j := i) (xs := L) (h := by rw [List.length_take]; omega)]
          exact List.getElem_mem _
        · have ek : L[k] = jbA L k := (gD hkL).symm
          rw [ek]
          unfold cnf1
          rw [hend i hi, hend k (by omega)]
          have e1 : (jbA L k).2.1 = (jbA L i).2.1 := hs
          have e2 : (jbA L k).2.2 < stA L i + duA TT i := by show stA L k < _; omega
          have e3 : (jbA L i).2.2 < stA L k + duA TT k := by show stA L i < _; omega
          rw [decide_eq_true e1, decide_eq_true e2, decide_eq_true e3]; rfl
      · have hxr := hF.a hi x hx
        refine List.any_eq_true.2 ⟨x, hx, decide_eq_true ?_⟩
        rw [hend x.toNat (by omega)]; omega
    refine ⟨hlen, fun i hi => (h1 i hi).1, fun i hi => (h1 i hi).2.1, fun i hi => (h1 i hi).2.2.1, fun i hi => (h1 i hi).2.2.2, fun i j hi hj hij hs => ?_, fun i hi => (hc i hi).2⟩
    rcases Nat.lt_or_gt_of_ne hij with hlt | hlt
    · exact ((hc j hj).1 i hlt hs).symm
    · exact (hc i hi).1 j hlt hs.symm
  · intro h
    unfold schE
    rw [if_neg (by rw [h.len]; simp)]
    have h1 : ∀ i, i < TT.length → jobE TT SS i (jbA L i) = 0 := fun i hi => by
      have a1 := h.tk i hi
      have a2 := h.st i hi
      have a3 := h.s0 i hi
      have a4 := h.can i hi
      unfold snA stA at *
      unfold jobE
      rw [if_neg (by omega), if_neg (by omega), a4]; rfl
    rw [firstE_none h1]
    refine first_getD.2 fun i hi => ?_
    unfold cnfE
    rw [if_neg, if_neg]
    · intro g
      obtain ⟨x, hx, hd⟩ := List.any_eq_true.1 g
      have hxr := hF.a hi x hx
      have := h.pr i hi x hx
      rw [decide_eq_true_eq, end_eq (h.tk x.toNat (by omega))] at hd
      omega
    · intro g
      obtain ⟨k, hk, hd⟩ := List.any_eq_true.1 g
      obtain ⟨v, hv, rfl⟩ := List.mem_iff_getElem.1 hk
      rw [List.length_take] at hv
      rw [List.getElem_take, show L[v]'(by omega) = jbA L v from (gD (by omega)).symm] at hd
      unfold cnf1 at hd
      rw [Bool.and_eq_true, Bool.and_eq_true, decide_eq_true_eq, decide_eq_true_eq, decide_eq_true_eq, end_eq (h.tk i hi), end_eq (h.tk v (by omega))] at hd
      have hd2 : stA L v < stA L i + duA TT i := hd.2.1
      have hd3 : stA L i < stA L v + duA TT v := hd.2.2
      rcases h.dj v i (by omega) hi (by omega) hd.1 with g | g <;> omega
theorem chk_iff (hF : Fit TT) (hE : shopE TT SS = 0) : chkE TT SS L = 0 ↔ Sch TT SS L := by
  unfold chkE; rw [if_neg (by rw [hE]; simp)]; exact sch_iff hF
theorem chk_zero {TT : List Tk} {SS : List Sn} {L : List Jb} (h : chkE TT SS L = 0) : shopE TT SS = 0 ∧ schE TT SS L = 0 := by
  unfold chkE at h
  split at h
  · rename_i h1; exact absurd h h1
  · rename_i h1; exact ⟨Decidable.not_not.1 h1, h⟩
/-- the jobs by their start -/
def srtJ (L : List Jb) : List Jb := srtI (fun a b : Jb => decide (a.2.2 - b.2.2 < 0)) L
def ordJ (L : List Jb) : List Nat := (srtJ L).map fun j => j.1.toNat
theorem srtJ_mem (h : Sch TT SS L) {j : Jb} (hj : j ∈ srtJ L) : j.1.toNat < TT.length ∧ j = jbA L j.1.toNat := by
  have hm := (srtI_perm _ L).mem_iff.1 hj
  obtain ⟨v, hv, rfl⟩ := List.mem_iff_getElem.1 hm
  have e : L[v] = jbA L v := (gD hv).symm
  have hv' : v < TT.length := by rw [← h.len]; exact hv
  have ht := h.tk v hv'
  rw [← e] at ht
  rw [ht, Int.toNat_natCast]
  exact ⟨hv', e⟩
theorem ordJ_ord (h : Sch TT SS L) : Ord TT.length (stA L) (ordJ L) := by
  have hp : (srtJ L).Perm L := srtI_perm _ L
  have hmap : L.map (fun j => j.1.toNat) = List.range TT.length := by
    apply List.ext_getElem
    · simp [h.len]
    · intro v h1 h2
      have hv : v < TT.length := by simpa using h2
      rw [List.getElem_map, List.getElem_range, show L[v]'(by rw [h.len]; exact hv) = jbA L v from (gD (by rw [h.len]; exact hv)).symm, h.tk v hv, Int.toNat_natCast]
  have hpm : (ordJ L).Perm (List.range TT.length) := by rw [← hmap]; exact hp.map _
  refine ⟨hpm.nodup_iff.2 List.nodup_range, fun i hi => List.mem_range.1 (hpm.mem_iff.1 hi), by rw [hpm.length_eq, List.length_range], ?_⟩
  unfold ordJ
  rw [List.pairwise_map]
  have hs : (srtJ L).Pairwise (fun a b => a.2.2 ≤ b.2.2) := srtI_sorted (key := fun j : Jb => j.2.2) (fun x y => by rw [decide_eq_decide]; omega) L
  refine hs.imp_of_mem fun {a b} ha hb hab => ?_
  have e1 := (srtJ_mem h ha).2
  have e2 := (srtJ_mem h hb).2
  unfold stA
  rw [← e1, ← e2]; exact hab
def seqJ (L : List Jb) : List (Nat × Nat) := (srtJ L).map fun j => (j.1.toNat, j.2.1.toNat)
theorem seqJ_eq (h : Sch TT SS L) : seqJ L = seqO L (ordJ L) := by
  unfold seqJ seqO ordJ
  rw [List.map_map]
  refine List.map_congr_left fun j hj => ?_
  have e := (srtJ_mem h hj).2
  show (j.1.toNat, j.2.1.toNat) = (j.1.toNat, (snA L j.1.toNat).toNat)
  unfold snA
  rw [← e]
def begJ (TT : List Tk) (SS : List Sn) (L : List Jb) : SSt := (L, List.replicate TT.length false, List.replicate SS.length 0)
/-- the schedule of the earliest begins -/
def earF (TT : List Tk) (SS : List Sn) (L : List Jb) : List Jb := (runS TT (begJ TT SS L) (seqJ L)).1
theorem ear_run (hF : Fit TT) (h : Sch TT SS L) : okS TT SS (begJ TT SS L) (seqJ L) ∧ Low TT L (runS TT (begJ TT SS L) (seqJ L)) (ordJ L) ∧ Par TT SS (runS TT (begJ TT SS L) (seqJ L)) (ordJ L) := by
  have hP : Par TT SS (begJ TT SS L) [] := Par.nil h.len
  have hO := ordJ_ord h
  obtain ⟨h1, h2⟩ := Low.run hF h (ordJ L) hP (Low.nil _) (by simpa using hO)
  rw [← seqJ_eq h] at h1 h2
  refine ⟨h1, by simpa using h2, ?_⟩
  have := hP.run hF _ h1
  rw [seqJ_eq h, seqO_fst] at this
  rw [seqJ_eq h]
  simpa using this
/-- what Early returns, as numbers -/
structure EarP (TT : List Tk) (SS : List Sn) (L E : List Jb) : Prop where
  sch : Sch TT SS E
  sn : ∀ i, i < TT.length → snA E i = snA L i
  le : ∀ i, i < TT.length → stA E i ≤ stA L i
  sq : ∀ i, i < TT.length → ∀ j, j < TT.length → snA L j = snA L i → stA L j < stA L i → stA E j + duA TT j ≤ stA E i
  tg : ∀ i, i < TT.length → stA E i = 0 ∨ (∃ x ∈ afA TT i, stA E i = stA E x.toNat + duA TT x.toNat) ∨ ∃ j, j < TT.length ∧ snA L j = snA L i ∧ stA L j < stA L i ∧ stA E i = stA E j + duA TT j
theorem ear_p (hF : Fit TT) (h : Sch TT SS L) : EarP TT SS L (earF TT SS L) := by
  obtain ⟨h1, h2, h3⟩ := ear_run hF h
  have hO := ordJ_ord h
  have ha := fun {i : Nat} (hi : i < TT.length) => all_in hO.nd hO.lt hO.len hi
  refine ⟨h3.sch hF hO.len, fun i hi => h2.sn i (ha hi), fun i hi => h2.le i (ha hi), fun i hi j hj => h2.sq i (ha hi) j (ha hj), fun i hi => ?_⟩
  rcases h2.tg i (ha hi) with g | g | ⟨j, hj, g⟩
  · exact .inl g
  · exact .inr (.inl g)
  · exact .inr (.inr ⟨j, hO.lt j hj, g⟩)
/-- there is one such schedule only: what lies below a schedule's begins -/
theorem ear_below (hF : Fit TT) (hL : Sch TT SS L) {E : List Jb} (hE : EarP TT SS L E) (f : Nat → Int) (h0 : ∀ i, i < TT.length → 0 ≤ f i) (hp : ∀ i, i < TT.length → ∀ x ∈ afA TT i, f x.toNat + duA TT x.toNat ≤ f i)
    (hs : ∀ i, i < TT.length → ∀ j, j < TT.length → snA L j = snA L i → stA L j < stA L i → f j + duA TT j ≤ f i) : ∀ (m : Nat) (i : Nat), i < TT.length → (stA L i).toNat ≤ m → stA E i ≤ f i := by
  intro m
  induction m using Nat.strongRecOn with
  | ind m ih =>
    intro i hi hm
    rcases hE.tg i hi with g | ⟨x, hx, g⟩ | ⟨j, hj, g1, g2, g3⟩
    · rw [g]; exact h0 i hi
    · have hxr := hF.a hi x hx
      have h1 := hL.pr i hi x hx
      have h2 := hF.d (i := x.toNat) (by omega)
      have h3 := hL.s0 x.toNat (by omega)
      have := ih (stA L x.toNat).toNat (by omega) x.toNat (by omega) (Nat.le_refl _)
      have := hp i hi x hx
      omega
    · have h3 := hL.s0 j hj
      have := ih (stA L j).toNat (by omega) j hj (Nat.le_refl _)
      have := hs i hi j hj g1 g2
      omega
theorem ext_jobs {E E' : List Jb} (h : Sch TT SS E) (h' : Sch TT SS E') (hn : ∀ i, i < TT.length → snA E i = snA E' i) (ht : ∀ i, i < TT.length → stA E i = stA E' i) : E = E' := by
  apply List.ext_getElem (by rw [h.len, h'.len])
  intro i h1 h2
  have hi : i < TT.length := by rw [← h.len]; exact h1
  have e1 : E[i] = jbA E i := (gD h1).symm
  have e2 : E'[i] = jbA E' i := (gD h2).symm
  rw [e1, e2]
  exact Prod.ext ((h.tk i hi).trans (h'.tk i hi).symm) (Prod.ext (hn i hi) (ht i hi))
theorem ear_unique (hF : Fit TT) (hL : Sch TT SS L) {E E' : List Jb} (hE : EarP TT SS L E) (hE' : EarP TT SS L E') : E = E' :=
  ext_jobs hE.sch hE'.sch (fun i hi => (hE.sn i hi).trans (hE'.sn i hi).symm) fun i hi => Int.le_antisymm
    (ear_below hF hL hE (stA E') (fun i hi => (hE'.sch.s0 i hi).1) hE'.sch.pr hE'.sq _ i hi (Nat.le_refl _))
    (ear_below hF hL hE' (stA E) (fun i hi => (hE.sch.s0 i hi).1) hE.sch.pr hE.sq _ i hi (Nat.le_refl _))
/-- doing it again changes nothing -/
theorem ear_ear (hF : Fit TT) (hL : Sch TT SS L) : earF TT SS (earF TT SS L) = earF TT SS L := by
  have h1 := ear_p hF hL
  have h2 := ear_p hF h1.sch
  refine ear_unique hF h1.sch h2 ⟨h1.sch, fun _ _ => rfl, fun _ _ => Int.le_refl _, fun i hi j hj hs hlt => ?_, fun i hi => ?_⟩
  · refine h1.sch.apart hF hi hj (fun e => by subst e; omega) hs (by omega)
  · rcases h1.tg i hi with g | g | ⟨j, hj, g1, g2, g3⟩
    · exact .inl g
    · exact .inr (.inl g)
    · have := hF.d hj
      exact .inr (.inr ⟨j, hj, by rw [h1.sn i hi, h1.sn j hj]; exact g1, by omega, g3⟩)
theorem ear_msp (hF : Fit TT) (hL : Sch TT SS L) : mspF TT (earF TT SS L) ≤ mspF TT L := by
  have h1 := ear_p hF hL
  obtain ⟨m1, m2, -⟩ := hL.msp
  exact h1.sch.msp_le m1 fun i hi => Int.le_trans (Int.add_le_add_right (h1.le i hi) _) (m2 i hi)
end
end Go.Proofs.YtnlkffccobdbjaaGreat
