/- The plain law of a schedule that is drawn: the list schedule, its jobs later by their order in time. -/
import Derived.Test.YtnlkffccobdbjaaGreatYX5
import Derived.Test.YtnlkffccobdbjaaGreatYX4
namespace Go.Proofs.YtnlkffccobdbjaaGreat
open Go Go.RowKit Go.Dw
section
variable {TT : List Tk} {SS : List Sn} {L : List Jb}
/-- the first m jobs in time are later -/
def drK (TT : List Tk) (L : List Jb) (d m : Nat) : List Jb := (List.range TT.length).map fun i : Nat => ((i : Int), snA L i, stA L i + if (ordJ L).idxOf i < m then (((ordJ L).idxOf i * d : Nat) : Int) else 0)
def drF (TT : List Tk) (L : List Jb) (d : Nat) : List Jb := drK TT L d TT.length
theorem drK_len (d m : Nat) : (drK TT L d m).length = TT.length := by unfold drK; simp
theorem drK_get {d m i : Nat} (hi : i < TT.length) : jbA (drK TT L d m) i = ((i : Int), snA L i, stA L i + if (ordJ L).idxOf i < m then (((ordJ L).idxOf i * d : Nat) : Int) else 0) := by
  have : jbA (drK TT L d m) i = (drK TT L d m)[i]'(by rw [drK_len]; exact hi) := gD (by rw [drK_len]; exact hi)
  rw [this]
  unfold drK
  simp
theorem jb_ext {A B : List Jb} (hl : A.length = B.length) (h : ∀ i, i < A.length → jbA A i = jbA B i) : A = B := by
  apply List.ext_getElem hl
  intro i h1 h2
  have e1 : A[i] = jbA A i := (gD h1).symm
  have e2 : B[i] = jbA B i := (gD h2).symm
  rw [e1, e2, h i h1]
theorem drK_zero (hL : Sch TT SS L) (d : Nat) : drK TT L d 0 = L := by
  refine jb_ext (by rw [drK_len, hL.len]) fun i hi => ?_
  rw [drK_len] at hi
  rw [drK_get hi, if_neg (Nat.not_lt_zero _), Int.add_zero]
  exact Prod.ext (hL.tk i hi).symm rfl
theorem idx_at {O : List Nat} (hn : O.Nodup) {m : Nat} (hm : m < O.length) : O.idxOf O[m] = m := by
  exact hn.idxOf_getElem m hm
theorem drK_step (hL : Sch TT SS L) {d m : Nat} (hm : m < (ordJ L).length) : drK TT L d (m + 1) = (drK TT L d m).set (ordJ L)[m] (((ordJ L)[m] : Int), snA L (ordJ L)[m], stA L (ordJ L)[m] + ((m * d : Nat) : Int)) := by
  have hO := ordJ_ord hL
  refine jb_ext (by rw [drK_len, List.length_set, drK_len]) fun i hi => ?_
  rw [drK_len] at hi
  have hx := hO.lt _ (List.getElem_mem hm)
  have e : jbA ((drK TT L d m).set (ordJ L)[m] (((ordJ L)[m] : Int), snA L (ordJ L)[m], stA L (ordJ L)[m] + ((m * d : Nat) : Int))) i = if (ordJ L)[m] = i then (((ordJ L)[m] : Int), snA L (ordJ L)[m], stA L (ordJ L)[m] + ((m * d : Nat) : Int)) else jbA (drK TT L d m) i := gSet (by rw [drK_len]; exact hx)
  rw [e, drK_get hi, drK_get hi]
  by_cases h : (ordJ L)[m] = i
  · rw [if_pos h]
    subst h
    rw [idx_at hO.nd hm, if_pos (Nat.lt_succ_self m)]
  · rw [if_neg h]
    have hne : (ordJ L).idxOf i ≠ m := fun g => h (by
      have hi2 : i ∈ ordJ L := all_in hO.nd hO.lt hO.len hi
      have := List.getElem_idxOf (List.idxOf_lt_length_of_mem hi2)
      have key : ∀ (k : Nat) (hk : k < (ordJ L).length), k = m → (ordJ L)[k] = i → (ordJ L)[m] = i := fun k hk e1 e2 => by subst e1; exact e2
      exact key _ _ g this)
    by_cases h1 : (ordJ L).idxOf i < m
    · rw [if_pos h1, if_pos (by omega)]
    · rw [if_neg h1, if_neg (by omega)]
theorem drF_get {d i : Nat} (hL : Sch TT SS L) (hi : i < TT.length) : jbA (drF TT L d) i = ((i : Int), snA L i, stA L i + (((ordJ L).idxOf i * d : Nat) : Int)) := by
  have hO := ordJ_ord hL
  have hi2 : i ∈ ordJ L := all_in hO.nd hO.lt hO.len hi
  have := List.idxOf_lt_length_of_mem hi2
  rw [hO.len] at this
  unfold drF
  rw [drK_get hi, if_pos this]
/-- what ends before another begins, comes before it in the order of time -/
theorem idx_lt (hL : Sch TT SS L) {i j : Nat} (hi : i < TT.length) (hj : j < TT.length) (h : stA L i < stA L j) : (ordJ L).idxOf i < (ordJ L).idxOf j := by
  have hO := ordJ_ord hL
  have hi2 : i ∈ ordJ L := all_in hO.nd hO.lt hO.len hi
  have hj2 : j ∈ ordJ L := all_in hO.nd hO.lt hO.len hj
  have li := List.idxOf_lt_length_of_mem hi2
  have lj := List.idxOf_lt_length_of_mem hj2
  refine Classical.byContradiction fun hn => ?_
  rcases Nat.lt_or_ge ((ordJ L).idxOf j) ((ordJ L).idxOf i) with g | g
  · have := List.pairwise_iff_getElem.1 hO.srt _ _ lj li g
    rw [List.getElem_idxOf lj, List.getElem_idxOf li] at this
    omega
  · have e : (ordJ L).idxOf i = (ordJ L).idxOf j := by omega
    have key : ∀ (k : Nat) (hk : k < (ordJ L).length), k = (ordJ L).idxOf i → (ordJ L)[k] = i := fun k hk e1 => by subst e1; exact List.getElem_idxOf hk
    have := key _ lj e.symm
    rw [List.getElem_idxOf lj] at this
    subst this; omega
theorem dr_sch (hF : Fit TT) (hL : Sch TT SS L) {d : Nat} (hd : d ≤ 3) (hb : ∀ i, i < TT.length → stA L i ≤ 16777216) : Sch TT SS (drF TT L d) := by
  have hO := ordJ_ord hL
  have hn := hF.n
  have e1 : ∀ i, i < TT.length → snA (drF TT L d) i = snA L i := fun i hi => by unfold snA; rw [drF_get hL hi]; rfl
  have e2 : ∀ i, i < TT.length → stA (drF TT L d) i = stA L i + (((ordJ L).idxOf i * d : Nat) : Int) := fun i hi => by unfold stA; rw [drF_get hL hi]; rfl
  have bd : ∀ i, i < TT.length → (ordJ L).idxOf i * d ≤ 72 := fun i hi => by
    have := List.idxOf_lt_length_of_mem (all_in hO.nd hO.lt hO.len hi)
    rw [hO.len] at this
    exact Nat.mul_le_mul (show (ordJ L).idxOf i ≤ 24 by omega) hd
  have mono : ∀ i j, i < TT.length → j < TT.length → stA L i + duA TT i ≤ stA L j → stA (drF TT L d) i + duA TT i ≤ stA (drF TT L d) j := fun i j hi hj h => by
    have hdu := hF.d hi
    have := idx_lt hL hi hj (by omega)
    have h2 : (ordJ L).idxOf i * d ≤ (ordJ L).idxOf j * d := Nat.mul_le_mul_right d (by omega)
    rw [e2 i hi, e2 j hj]; omega
  refine ⟨drK_len _ _, fun i hi => by rw [drF_get hL hi], fun i hi => by rw [e1 i hi]; exact hL.st i hi, fun i hi => ?_, fun i hi => by rw [e1 i hi]; exact hL.can i hi, fun i j hi hj hij hs => ?_, fun i hi x hx => ?_⟩
  · have g1 := hL.s0 i hi
    have g2 := hb i hi
    have g3 := bd i hi
    rw [e2 i hi]; omega
  · rw [e1 i hi, e1 j hj] at hs
    rcases hL.dj i j hi hj hij hs with g | g
    · exact .inl (mono i j hi hj g)
    · exact .inr (mono j i hj hi g)
  · exact mono _ i (by have := hF.a hi x hx; omega) hi (hL.pr i hi x hx)
theorem lis_bd (hF : Fit TT) (hE : shopE TT SS = 0) {order : List Int} (hO : OrdOk TT.length order) (h6 : TT.length ≤ 12) : ∀ i, i < TT.length → stA (lisK TT SS order order.length).1 i ≤ 16777216 := fun i hi => by
  obtain ⟨A, hA, hl⟩ := lis_run hF hE hO TT.length (Nat.le_refl _)
  rw [hO.l]
  have g := hA.s0 i (all_in hA.nd hA.lt hl hi)
  have hd := hF.d hi
  rw [hl] at g
  omega
end
end Go.Proofs.YtnlkffccobdbjaaGreat
