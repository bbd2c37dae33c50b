/- The plain law of the list schedule: it is a schedule. No condition. -/
import Derived.Test.YtnlkffccobdbjaaGreatYX4
import Derived.Test.YtnlkffccobdbjaaGreatYWr
namespace Go.Proofs.YtnlkffccobdbjaaGreat
open Go Go.RowKit Go.Dw
theorem bst_can (TT : List Tk) (SS : List Sn) (J : List Jb) (Fr : List Int) (i : Nat) : ∀ k, 0 ≤ bstK TT SS J Fr i k → caA TT SS i (bstK TT SS J Fr i k).toNat = true
  | 0, h => by simp [bstK] at h
  | k + 1, h => by
    unfold bstK at h ⊢
    split
    · rename_i hc
      rw [Bool.and_eq_true] at hc
      rw [Int.toNat_natCast]; exact hc.1
    · rename_i hc
      rw [if_neg hc] at h
      exact bst_can TT SS J Fr i k h
/-- an order has each task -/
structure OrdOk (N : Nat) (order : List Int) : Prop where
  l : order.length = N
  r : ∀ x ∈ order, 0 ≤ x ∧ x < (N : Int)
  a : ∀ i : Nat, i < N → (i : Int) ∈ order
theorem lis_run {TT : List Tk} {SS : List Sn} (hF : Fit TT) (hE : shopE TT SS = 0) {order : List Int} (hO : OrdOk TT.length order) : ∀ m, m ≤ TT.length → ∃ A, Par TT SS (lisK TT SS order m) A ∧ A.length = m
  | 0, _ => ⟨[], begS_par, rfl⟩
  | m + 1, hm => by
    obtain ⟨A, hP, hA⟩ := lis_run hF hE hO m (by omega)
    obtain ⟨_, _, _, hfull, _, hcan⟩ := shop_ok hE
    obtain ⟨s, hs⟩ : ∃ s, s = lisK TT SS order m := ⟨_, rfl⟩
    rw [← hs] at hP
    have hany : order.any (fun x => opnF TT s.2.1 x.toNat) = true := by
      obtain ⟨i, hi, hr⟩ := ex_open hfull (S := A) (by omega)
      refine List.any_eq_true.2 ⟨(i : Int), hO.a i hi, ?_⟩
      rw [Int.toNat_natCast, hP.dl, opn_rdy hi (hF.ar _ (List.getElem_mem hi))]
      exact hr
    obtain ⟨z1, z2, z3⟩ := idx_get hany
    have hir := hO.r _ (List.getElem_mem z1)
    have hi0 : lisI TT s.2.1 order = (order[(idxBy (fun x => opnF TT s.2.1 x.toNat) order).toNat]'z1).toNat := by unfold lisI; rw [gD z1]
    have hi : lisI TT s.2.1 order < TT.length := by rw [hi0]; omega
    have ho : opnF TT s.2.1 (lisI TT s.2.1 order) = true := by rw [hi0]; exact z3
    obtain ⟨r1, r2, r3⟩ := bst_rng TT SS s.1 s.2.2 (lisI TT s.2.1 order) SS.length
    have hb0 : 0 ≤ bstK TT SS s.1 s.2.2 (lisI TT s.2.1 order) SS.length := r3 (by
      have := hcan _ (List.getElem_mem hi)
      obtain ⟨t, hs1, hs2⟩ := List.any_eq_true.1 this
      obtain ⟨j, hj, rfl⟩ := List.mem_iff_getElem.1 hs1
      exact ⟨j, hj, by rw [tk_get hi, gD hj]; exact hs2⟩)
    refine ⟨A ++ [lisI TT s.2.1 order], ?_, by simp [hA]⟩
    have e : lisK TT SS order (m + 1) = jbS TT s (lisI TT s.2.1 order) (bstK TT SS s.1 s.2.2 (lisI TT s.2.1 order) SS.length).toNat := by rw [hs]; rfl
    rw [e]
    exact hP.step hF hi (by omega) ho (bst_can _ _ _ _ _ _ hb0)
theorem lis_sch {TT : List Tk} {SS : List Sn} (hF : Fit TT) (hE : shopE TT SS = 0) {order : List Int} (hO : OrdOk TT.length order) : Sch TT SS (lisK TT SS order order.length).1 := by
  obtain ⟨A, hP, hA⟩ := lis_run hF hE hO order.length (by rw [hO.l]; exact Nat.le_refl _)
  exact hP.sch hF (by rw [hA, hO.l])
theorem Sch.jok {TT : List Tk} {SS : List Sn} {L : List Jb} (h : Sch TT SS L) : ∀ j ∈ L, JOk TT.length j := fun j hj => by
  obtain ⟨i, hi, rfl⟩ := List.mem_iff_getElem.1 hj
  have hiT : i < TT.length := by rw [← h.len]; exact hi
  have e : L[i] = jbA L i := (gD hi).symm
  have h1 := h.tk i hiT
  have h2 := h.s0 i hiT
  rw [e]
  unfold stA at h2
  exact ⟨⟨by omega, by omega⟩, by omega, by omega⟩
theorem prL_ord (TT : List Tk) (T : List Int) (rule : Int) : OrdOk TT.length (prL TT T rule) := by
  have hp : (prL TT T rule).Perm (natL (List.range TT.length)) := srtI_perm _ _
  refine ⟨by rw [hp.length_eq]; simp [natL], fun x hx => ?_, fun i hi => hp.mem_iff.2 (List.mem_map.2 ⟨i, List.mem_range.2 hi, rfl⟩)⟩
  obtain ⟨v, hv, rfl⟩ := List.mem_map.1 (hp.mem_iff.1 hx)
  have := List.mem_range.1 hv
  omega
end Go.Proofs.YtnlkffccobdbjaaGreat
