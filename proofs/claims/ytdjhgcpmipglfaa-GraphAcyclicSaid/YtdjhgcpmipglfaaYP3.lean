/- The plain law of cycles: over sorted edges the first of the shortest cycles is the reference's. No condition of its own. -/
import Derived.Test.YtdjhgcpmipglfaaYP2
import Derived.Test.YtdjhgcpmipglfaaYL9
import Derived.Test.YtdjhgcpmipglfaaYL8
namespace Go.Proofs.Ytdjhgcpmipglfaa
open Go Go.RowKit Go.Dw
theorem foldl_skip {N : Nat} {E : List (Int × Int)} : ∀ (P : List (Int × Int)) (s : Int × Int), P.foldl (cst N E) s = (P.filter fun p => hasF E p.1 p.2).foldl (cst N E) s
  | [], _ => rfl
  | p :: P, s => by
    rw [List.foldl_cons, foldl_skip P, List.filter_cons]
    cases h : hasF E p.1 p.2 with
    | true => rw [if_pos rfl, List.foldl_cons]
    | false =>
      rw [if_neg Bool.false_ne_true]
      have : cst N E s p = s := by unfold cst; rw [h]; simp
      rw [this]
theorem prP_filter (N : Nat) (E : List (Int × Int)) : ((prP N N).filter fun p => hasF E p.1 p.2) = mkF N E := by
  unfold prP mkF mkK
  rw [List.filter_flatMap]
  congr 1
  funext i
  unfold rowP rowK
  rw [List.filter_map]
  rfl
theorem mkF_self {N : Nat} {E : List (Int × Int)} (hG : Gr N E) (hs : Srt E) : mkF N E = E := by
  refine Srt.ext (mkF_srt N E) hs fun x => ?_
  rw [mkF_mem]
  refine ⟨fun h => h.1, fun h => ⟨h, ?_⟩⟩
  have := hG.rng _ h
  simp only [outF, beyondF, Bool.or_eq_false_iff, decide_eq_false_iff_not]
  omega
theorem scanR_eq {N : Nat} {E : List (Int × Int)} (hG : Gr N E) (hs : Srt E) : scanR N E = E.foldl (cst N E) (0, -1) := by
  unfold scanR
  rw [foldl_skip, prP_filter, mkF_self hG hs]
theorem dz_some {o : Option Nat} {d : Nat} (h : dz o = (d : Int)) : o = some d := by
  cases o with
  | none => simp only [dz] at h; omega
  | some s => simp only [dz] at h; congr 1; omega
theorem path_of {N : Nat} {E : List (Int × Int)} {x y : Int} {d : Nat} (h : dst N E x y = some d) : pathF N E x y = pth N E y d x := by unfold pathF; rw [h]
theorem cycL_of {N : Nat} {E : List (Int × Int)} {e : Int × Int} {d : Nat} (h : dst N E e.2 e.1 = some d) : cycL N E e = e.1 :: (pth N E e.1 d e.2).take d := by
  unfold cycL; rw [path_of h, pth_len]; rfl
theorem cycL_leneq {N : Nat} {E : List (Int × Int)} {e : Int × Int} {d : Nat} (h : dst N E e.2 e.1 = some d) : (cycL N E e).length = d + 1 := by
  rw [cycL_of h, List.length_cons, List.length_take, pth_len]; omega
theorem cmpI_gt {x y : Int} (h : y < x) : 0 < cmpI x y := by
  unfold cmpI; split <;> (try split) <;> omega
theorem cmpL_head {x y : Int} {r t : List Int} (h : y < x) : ¬ cmpL (x :: r) (y :: t) < 0 := by
  have := cmpI_gt h
  rw [cmpL, if_pos (by omega)]; omega
theorem cmpI_same (x : Int) : cmpI x x = 0 := by unfold cmpI; split <;> (try split) <;> omega
theorem cyc_cmp {N : Nat} {E : List (Int × Int)} {e e' : Int × Int} {d : Nat} (h : elt e e') (h1 : dst N E e.2 e.1 = some d) (h2 : dst N E e'.2 e'.1 = some d) : ¬ cmpL (cycL N E e') (cycL N E e) < 0 := by
  rw [cycL_of h1, cycL_of h2]
  rcases h with h | ⟨h, h3⟩
  · exact cmpL_head h
  · cases d with
    | zero =>
      have a := dst_zero h1
      have b := dst_zero h2
      omega
    | succ d =>
      rw [cmpL, if_neg (by rw [h, cmpI_same]; simp), pth, pth, List.take_succ_cons, List.take_succ_cons]
      exact cmpL_head h3
def bestE (N : Nat) (E M : List (Int × Int)) (e : Int × Int) (d : Nat) : Prop :=
  e ∈ E ∧ dst N E e.2 e.1 = some d ∧ (∀ e' ∈ M, ∀ d', dst N E e'.2 e'.1 = some d' → d ≤ d') ∧ (∀ e' ∈ E, elt e' e → ∀ d', dst N E e'.2 e'.1 = some d' → d < d')
theorem cyc_inv {N : Nat} {E : List (Int × Int)} (hG : Gr N E) (hs : Srt E) : ∀ k, k ≤ E.length →
    (cycK N E (E.take k) = none ∧ (E.take k).foldl (cst N E) (0, -1) = (0, -1) ∧ ∀ e ∈ E.take k, dst N E e.2 e.1 = none) ∨
    ∃ e d, bestE N E (E.take k) e d ∧ e ∈ E.take k ∧ cycK N E (E.take k) = some (cycL N E e) ∧ (E.take k).foldl (cst N E) (0, -1) = ((d : Int) + 1, e.1)
  | 0, _ => .inl ⟨rfl, rfl, by simp⟩
  | k + 1, hk => by
    have hk' : k < E.length := by omega
    have ih := cyc_inv hG hs k (by omega)
    have hmem : E[k] ∈ E := List.getElem_mem hk'
    have hmk : E[k] ∈ E.take (k + 1) := by rw [List.take_succ_eq_append_getElem hk']; exact List.mem_append_right _ (List.mem_singleton.2 rfl)
    have hhas : hasF E E[k].1 E[k].2 = true := hasF_iff.2 hmem
    have e1 := cycK_succ (N := N) hk'
    have e2 : (E.take (k + 1)).foldl (cst N E) (0, -1) = cst N E ((E.take k).foldl (cst N E) (0, -1)) E[k] := by rw [List.take_succ_eq_append_getElem hk', List.foldl_append]; rfl
    have hin : ∀ x, x ∈ E.take (k + 1) ↔ x ∈ E.take k ∨ x = E[k] := fun x => by rw [List.take_succ_eq_append_getElem hk', List.mem_append, List.mem_singleton]
    have hlt : ∀ x ∈ E.take k, elt x E[k] := fun x hx => by
      obtain ⟨i, hi, rfl⟩ := List.getElem_of_mem hx
      rw [List.getElem_take]
      have hik : i < k := by rw [List.length_take] at hi; omega
      exact List.pairwise_iff_getElem.1 hs i k (by omega) hk' hik
    have hpre : ∀ x ∈ E, elt x E[k] → x ∈ E.take k := fun x hx hl => by
      obtain ⟨i, hi, rfl⟩ := List.getElem_of_mem hx
      have hik : i < k := by
        refine Classical.byContradiction fun hn => ?_
        by_cases h : i = k
        · subst h; exact elt_irrefl _ hl
        · exact elt_irrefl _ (elt_trans hl (List.pairwise_iff_getElem.1 hs k i hk' hi (by omega)))
      exact List.mem_take_iff_getElem.2 ⟨i, by omega, rfl⟩
    rw [e1, e2]
    cases hd : dst N E E[k].2 E[k].1 with
    | none =>
      have c1 : cycStep N E (cycK N E (E.take k)) E[k] = cycK N E (E.take k) := by unfold cycStep; rw [hd]
      have c2 : cst N E ((E.take k).foldl (cst N E) (0, -1)) E[k] = (E.take k).foldl (cst N E) (0, -1) := by
        generalize (E.take k).foldl (cst N E) (0, -1) = s
        unfold cst; rw [hd]; simp [dz]
      rw [c1, c2]
      rcases ih with ⟨h1, h2, h3⟩ | ⟨e, d, ⟨b1, b2, b3, b4⟩, h1, h2, h3⟩
      · refine .inl ⟨h1, h2, fun x hx => ?_⟩
        rcases (hin x).1 hx with h | rfl
        · exact h3 x h
        · exact hd
      · refine .inr ⟨e, d, ⟨b1, b2, fun x hx d' hx' => ?_, b4⟩, (hin e).2 (.inl h1), h2, h3⟩
        rcases (hin x).1 hx with h | rfl
        · exact b3 x h d' hx'
        · rw [hd] at hx'; cases hx'
    | some d' =>
      rcases ih with ⟨h1, h2, h3⟩ | ⟨e, d, ⟨b1, b2, b3, b4⟩, h1, h2, h3⟩
      · refine .inr ⟨E[k], d', ⟨hmem, hd, fun x hx d'' hx' => ?_, fun x hx hl d'' hx' => ?_⟩, hmk, ?_, ?_⟩
        · rcases (hin x).1 hx with h | rfl
          · rw [h3 x h] at hx'; cases hx'
          · rw [hd] at hx'; cases hx'; exact Nat.le_refl _
        · rw [h3 x (hpre x hx hl)] at hx'; cases hx'
        · unfold cycStep; rw [hd, h1]
        · rw [h2]; unfold cst; rw [hd, hhas]; simp [dz]
      · have hge : 0 ≤ e.1 := (hG.rng _ b1).1
        have hlt2 := hlt e h1
        have l1 := cycL_leneq b2
        have l2 := cycL_leneq (e := E[k]) hd
        have c1 : cycStep N E (cycK N E (E.take k)) E[k] = if d' < d then some (cycL N E E[k]) else some (cycL N E e) := by
          unfold cycStep; rw [hd, h2]
          dsimp only
          unfold cycB
          rw [l1, l2]
          by_cases hl : d' < d
          · rw [if_pos hl, decide_eq_true (by omega), Bool.true_or, if_pos rfl]
          · rw [if_neg hl, decide_eq_false (by omega), Bool.false_or]
            by_cases he : d' = d
            · subst he
              rw [decide_eq_false (cyc_cmp hlt2 b2 hd), Bool.and_false, if_neg Bool.false_ne_true]
            · rw [decide_eq_false (by omega), Bool.false_and, if_neg Bool.false_ne_true]
        have c2 : cst N E ((E.take k).foldl (cst N E) (0, -1)) E[k] = if d' < d then ((d' : Int) + 1, E[k].1) else ((d : Int) + 1, e.1) := by
          rw [h3]; unfold cst; rw [hd, hhas]
          rw [show dz (some d') = (d' : Int) from rfl]
          dsimp only
          rw [decide_eq_true (by omega : (0 : Int) ≤ (d' : Int)), decide_eq_false (by omega : ¬ e.1 < 0), Bool.false_or, Bool.true_and, Bool.true_and]
          by_cases hl : d' < d
          · rw [if_pos hl, decide_eq_true (by omega), if_pos rfl]
          · rw [if_neg hl, decide_eq_false (by omega), if_neg Bool.false_ne_true]
        rw [c1, c2]
        by_cases hl : d' < d
        · rw [if_pos hl, if_pos hl]
          refine .inr ⟨E[k], d', ⟨hmem, hd, fun x hx d'' hx' => ?_, fun x hx hl2 d'' hx' => ?_⟩, hmk, rfl, rfl⟩
          · rcases (hin x).1 hx with h | rfl
            · have := b3 x h d'' hx'; omega
            · rw [hd] at hx'; cases hx'; exact Nat.le_refl _
          · have := b3 x (hpre x hx hl2) d'' hx'; omega
        · rw [if_neg hl, if_neg hl]
          refine .inr ⟨e, d, ⟨b1, b2, fun x hx d'' hx' => ?_, b4⟩, (hin e).2 (.inl h1), rfl, rfl⟩
          rcases (hin x).1 hx with h | rfl
          · exact b3 x h d'' hx'
          · rw [hd] at hx'; cases hx'; omega
theorem cyc_eq {N : Nat} {E : List (Int × Int)} (hG : Gr N E) (hs : Srt E) : rcy N E = (cycK N E E).getD [] ∧ rce N E = (match cycK N E E with | none => 10 | some _ => 0) := by
  have inv := cyc_inv hG hs E.length (Nat.le_refl _)
  rw [List.take_length] at inv
  unfold rcy rce
  rw [scanR_eq hG hs]
  rcases inv with ⟨h1, h2, _⟩ | ⟨e, d, ⟨b1, b2, _, b4⟩, _, h2, h3⟩
  · rw [h1, h2]; exact ⟨rfl, rfl⟩
  · have hr := hG.rng _ b1
    rw [h2, h3]
    dsimp only
    rw [if_neg (by omega), if_neg (by omega)]
    refine ⟨?_, rfl⟩
    have hd1 : ((d : Int) + 1).toNat = d + 1 := by omega
    rw [hd1]
    obtain ⟨v, hv⟩ : ∃ v : Nat, e.2 = v := ⟨_, (Int.toNat_of_nonneg hr.2.2.1).symm⟩
    have hvN : v < N := by omega
    have hnx : nxR N E e.1 e.1 d = v := by
      have hf := find_hit (p := fun v : Nat => hasF E e.1 v && decide (dz (dst N E v e.1) = (d : Int))) (L := List.range N) (j := v) (by simpa using hvN) (fun t ht => by
        obtain ⟨i, hi, rfl⟩ := List.getElem_of_mem ht
        rw [List.length_take, List.length_range] at hi
        rw [List.getElem_take, List.getElem_range]
        cases hp : hasF E e.1 i && decide (dz (dst N E i e.1) = (d : Int)) with
        | false => rfl
        | true =>
          rw [Bool.and_eq_true, decide_eq_true_eq] at hp
          have := b4 (e.1, (i : Int)) (hasF_iff.1 hp.1) (.inr ⟨rfl, by dsimp only; omega⟩) d (dz_some hp.2)
          omega) (by rw [List.getElem_range, ← hv, hasF_iff.2 (show (e.1, e.2) ∈ E from b1), b2]; simp [dz])
      rw [List.getElem_range] at hf
      unfold nxR; rw [hf]; rfl
    rw [wkR, hnx, List.take_succ_cons, Option.getD_some, cycL_of b2, wkR_pth hG hs d v hvN (by rw [← hv]; exact b2), hv]
end Go.Proofs.Ytdjhgcpmipglfaa
