/- The plain law of paths: over sorted edges the graph's path is the reference's walk. No condition of its own. -/
import Derived.Test.YtdjhgcpmipglfaaXE
import Derived.Test.YtdjhgcpmipglfaaYL7
namespace Go.Proofs.Ytdjhgcpmipglfaa
open Go Go.RowKit Go.Dw
theorem sortedF_srt {L : List (Int × Int)} (h : sortedF L = true) : Srt L := by
  unfold sortedF at h
  rw [List.all_eq_true] at h
  have adj : ∀ i (hi : i + 1 < L.length), elt L[i] L[i + 1] := fun i hi => by
    have := h i (List.mem_range.2 (by omega))
    rw [decide_eq_true_eq, order_lt] at this
    have e1 : L.getD i (0, 0) = L[i] := by simp [List.getD, show i < L.length by omega]
    have e2 : L.getD (i + 1) (0, 0) = L[i + 1] := by simp [List.getD, hi]
    rw [e1, e2] at this
    exact this
  have all : ∀ d i (hi : i + 1 + d < L.length), elt L[i] L[i + 1 + d] := fun d => by
    induction d with
    | zero => intro i hi; exact adj i hi
    | succ d ih => intro i hi; exact elt_trans (ih i (by omega)) (adj (i + 1 + d) hi)
  refine List.pairwise_iff_getElem.2 fun i j hi hj hij => ?_
  have := all (j - i - 1) i (by omega)
  have e : i + 1 + (j - i - 1) = j := by omega
  simp only [e] at this
  exact this
theorem rowK_mem {E : List (Int × Int)} {a k : Nat} {x : Int × Int} : x ∈ rowK E a k ↔ x ∈ E ∧ x.1 = a ∧ 0 ≤ x.2 ∧ x.2 < k := by
  unfold rowK
  simp only [List.mem_map, List.mem_filter, List.mem_range, hasF_iff]
  constructor
  · rintro ⟨j, ⟨hj, hm⟩, rfl⟩; exact ⟨hm, rfl, by dsimp only; omega, by dsimp only; omega⟩
  · rintro ⟨hm, h1, h2, h3⟩
    have e2 := Int.toNat_of_nonneg h2
    exact ⟨x.2.toNat, ⟨by omega, by rw [e2, ← h1]; exact hm⟩, by rw [e2, ← h1]⟩
theorem succs_row {N : Nat} {E : List (Int × Int)} (hG : Gr N E) (hs : Srt E) (k : Nat) : succs E k = ((List.range N).filter fun b : Nat => hasF E k b).map fun b : Nat => (b : Int) := by
  have h1 : (E.filter fun e => e.1 == (k : Int)) = rowK E k N := by
    refine Srt.ext (List.Pairwise.filter _ hs) (rowK_srt E k N) fun x => ?_
    rw [rowK_mem, List.mem_filter, beq_iff_eq]
    constructor
    · rintro ⟨h, h2⟩; have := hG.rng _ h; exact ⟨h, h2, this.2.2.1, this.2.2.2⟩
    · rintro ⟨h, h2, _⟩; exact ⟨h, h2⟩
  unfold succs
  rw [h1]
  unfold rowK
  rw [List.map_map]
  rfl
theorem stp_nx {N : Nat} {E : List (Int × Int)} (hG : Gr N E) (hs : Srt E) {b : Int} {k : Nat} {s : Nat} (h : dst N E k b = some (s + 1)) : stp N E b k = nxR N E b k s := by
  unfold stp nxR
  rw [Int.toNat_natCast, succs_row hG hs, List.find?_map, List.find?_filter]
  have : (fun a : Nat => decide (hasF E k a = true ∧ (near N E b k ∘ fun b : Nat => (b : Int)) a = true)) = fun v : Nat => hasF E k v && decide (dz (dst N E v b) = (s : Int)) := by
    funext v
    unfold near
    simp only [Function.comp_apply]
    rw [h]
    have e : dz (some (s + 1)) - 1 = (s : Int) := by simp [dz]
    rw [e]
    by_cases h1 : hasF E k v = true <;> by_cases h2 : dz (dst N E v b) = (s : Int) <;> simp [h1, h2]
  rw [this]
theorem stp_dst {N : Nat} {E : List (Int × Int)} (hG : Gr N E) {b : Int} {k : Nat} (hk : k < N) {s : Nat} (h : dst N E k b = some (s + 1)) : dst N E (stp N E b k) b = some s ∧ ((k : Int), stp N E b k) ∈ E := by
  obtain ⟨t0, h1, h2⟩ := near_ex hG ⟨by omega, by omega⟩ h
  unfold stp
  cases hf : (succs E (k : Int).toNat).find? (near N E b k) with
  | none => rw [List.find?_eq_none] at hf; exact absurd h2 (hf t0 h1)
  | some t =>
    have h3 := List.find?_some hf
    have h4 := List.mem_of_find?_eq_some hf
    rw [Int.toNat_natCast] at h4
    exact ⟨near_dst h h3, mem_succs.1 h4⟩
theorem wkR_pth {N : Nat} {E : List (Int × Int)} (hG : Gr N E) (hs : Srt E) {b : Int} : ∀ (s : Nat) (k : Nat), k < N → dst N E k b = some s → wkR N E b s k = pth N E b s k
  | 0, k, _, _ => rfl
  | s + 1, k, hk, h => by
    obtain ⟨h1, h2⟩ := stp_dst hG hk h
    have hr := hG.rng _ h2
    have e := Int.toNat_of_nonneg hr.2.2.1
    dsimp only at hr e
    rw [wkR, pth, ← stp_nx hG hs h, ← e]
    rw [wkR_pth hG hs s _ (by omega) (by rw [e]; exact h1)]
theorem rpa_path {N : Nat} {E : List (Int × Int)} (hG : Gr N E) (hs : Srt E) {x y : Int} (hx : 0 ≤ x ∧ x < N) : rpa N E x y = pathF N E x y := by
  obtain ⟨v, rfl⟩ : ∃ v : Nat, x = v := ⟨_, (Int.toNat_of_nonneg hx.1).symm⟩
  unfold rpa pathF
  cases h : dst N E v y with
  | none => rfl
  | some s => exact wkR_pth hG hs s v (by omega) h
theorem path_self {N : Nat} {E : List (Int × Int)} (hG : Gr N E) {x : Int} (hx : 0 ≤ x ∧ x < N) : pathF N E x x = [x] := by
  unfold pathF; rw [dst_self hG hx]; rfl
theorem tree_eq {N : Nat} {E : List (Int × Int)} (hG : Gr N E) (hs : Srt E) {x : Int} (hx : 0 ≤ x ∧ x < N) : besK N N x (fun k => lastBut (pathF N E x k)) = (List.range N).map fun v : Nat => lastBut (rpa N E x v) := by
  unfold besK
  refine List.map_congr_left fun v hv => ?_
  have hvN := List.mem_range.1 hv
  rw [if_pos hvN, rpa_path hG hs hx]
  by_cases h : (v : Int) = x
  · rw [if_pos h, h, path_self hG hx]; rfl
  · rw [if_neg h]
theorem back_eq {N : Nat} {E : List (Int × Int)} (hG : Gr N E) (hs : Srt E) {x : Int} (hx : 0 ≤ x ∧ x < N) : besK N N x (fun k => second (pathF N E k x)) = (List.range N).map fun v : Nat => second (rpa N E v x) := by
  unfold besK
  refine List.map_congr_left fun v hv => ?_
  have hvN := List.mem_range.1 hv
  rw [if_pos hvN, rpa_path hG hs ⟨by omega, by omega⟩]
  by_cases h : (v : Int) = x
  · rw [if_pos h, h, path_self hG hx]; rfl
  · rw [if_neg h]
theorem single_fine {N : Nat} {E : List (Int × Int)} (h0 : checkF N E = 0) {x : Int} (hx : 0 ≤ x ∧ x < N) (r : List Int) : singleF N E (x :: r) = singleF N E r := by
  have : readyF N E [x] = 0 := by
    unfold readyF
    rw [if_neg (by rw [h0]; simp), if_neg (by simp [beyondF]; omega), if_pos (by unfold ascF; rfl)]
  rw [singleF, if_neg (by rw [this]; simp)]
end Go.Proofs.Ytdjhgcpmipglfaa
