/- The plain law of the lattice of closed sets. -/
import Derived.Test.YtbcjdjlihhlkaaaGreatDoorXM
namespace Go.Proofs.YtbcjdjlihhlkaaaGreatDoor
open Go Go.RowKit Go.Dw
theorem ofN_nod {t : Nat} (ht : t < 18446744073709551616) : ofN (nod t) = t := Nat.eq_of_testBit_eq fun v => by
  rw [ofN_bit fun x hx => by
    unfold nod at hx
    obtain ⟨i, _, rfl⟩ := List.mem_map.1 hx
    exact Int.natCast_nonneg _]
  rw [Bool.eq_iff_iff, decide_eq_true_eq, mem_nod]
  constructor
  · exact fun h => h.2
  · intro h
    refine ⟨?_, h⟩
    rcases Nat.lt_or_ge v 64 with h1 | h1
    · exact h1
    · rw [Nat.testBit_lt_two_pow (Nat.lt_of_lt_of_le ht (Nat.pow_le_pow_right (n := 2) (by decide) h1 : 2 ^ 64 ≤ 2 ^ v))] at h; cases h
section
variable {N : Nat} {E : List (Int × Int)}
/-- a candidate, as a set -/
theorem can_set (hN : N ≤ 7) {L : List Int} (hL : L ∈ candF N E 0 (-1)) : clsE E (ofN L) = true ∧ ofN L < 128 ∧ (∀ v, (ofN L).testBit v = true → v < N) ∧ ofN L ≠ 0 ∧ ofN L ≠ 2 ^ N - 1 ∧ nod (ofN L) = L := by
  obtain ⟨t, h1, h2, h3, rfl⟩ := candK_mem.1 hL
  have hp := Nat.two_pow_pos N
  have hp7 : 2 ^ N ≤ 128 := Nat.pow_le_pow_right (n := 2) (by decide) hN
  rw [ofN_nod (by omega)]
  unfold canP at h3
  rw [Bool.and_eq_true, Bool.and_eq_true] at h3
  exact ⟨h3.1.1, by omega, bits_iff.2 (by omega), by omega, by omega, rfl⟩
theorem hul_closed (hG : Gr N E) {t : Nat} (hc : clsE E t = true) (hr : ∀ v, t.testBit v = true → v < N) : hulM E N t = t := Sub.antisymm
  (fun v hv => by
    obtain ⟨x, hx, k, hk⟩ := (hul_bit hG hr).1 hv
    exact cls_walk hG hc (hr x hx) hx hk)
  (fun v hv => hul_mono hv N)
theorem can_hull (hG : Gr N E) (hN : N ≤ 7) (h0 : checkF N E = 0) {L : List Int} (hL : L ∈ candF N E 0 (-1)) : reaR N E L = L ∧ readyF N E L = 0 := by
  obtain ⟨h1, h2, h3, h4, h5, h6⟩ := can_set hN hL
  have hrg : ∀ x ∈ L, 0 ≤ x ∧ x < (N : Int) := fun x hx => by
    rw [← h6, nod_rng hG.hN h3] at hx
    obtain ⟨v, g1, _, rfl⟩ := mem_cast.1 hx
    omega
  have hrd : readyF N E L = 0 := by
    rw [← h6, nod_rng hG.hN h3]
    exact ready_cast h0 _
  refine ⟨?_, hrd⟩
  unfold reaR
  rw [if_pos hrd, Int.toNat_natCast, lst_rchL, ← hul_rea hG hrg, hul_closed hG h1 h3, h6]
theorem can_min (hG : Gr N E) (hN : N ≤ 7) (h0 : checkF N E = 0) {L : List Int} (hL : L ∈ candF N E 0 (-1)) : (minR N E).any (fun S => decide (((ofN S &&& ofN L : Nat) : Int) = ((ofN S : Nat) : Int))) = true := by
  obtain ⟨h1, h2, h3, h4, h5, h6⟩ := can_set hN hL
  have hmem : ∀ v : Nat, (v : Int) ∈ L ↔ (ofN L).testBit v = true := fun v => by
    constructor
    · intro h; rw [← h6] at h; exact (mem_nod.1 h).2
    · intro h; rw [← h6]; exact mem_nod.2 ⟨by have := h3 v h; omega, h⟩
  have hrg : ∀ x ∈ L, 0 ≤ x ∧ x < (N : Int) := fun x hx => by
    rw [← h6, nod_rng hG.hN h3] at hx
    obtain ⟨v, g1, _, rfl⟩ := mem_cast.1 hx
    omega
  have hlv : E.any (leaves L) = false := by
    rw [List.any_eq_false]
    intro e he
    obtain ⟨r1, r2, r3, r4⟩ := hG.rng e he
    unfold leaves
    intro hh
    simp only [Bool.and_eq_true, Bool.not_eq_true', decide_eq_true_eq, decide_eq_false_iff_not] at hh
    obtain ⟨a1, a2⟩ := hh
    have e1 : ((e.1.toNat : Nat) : Int) = e.1 := Int.toNat_of_nonneg r1
    have e2 : ((e.2.toNat : Nat) : Int) = e.2 := Int.toNat_of_nonneg r3
    have b1 := (hmem e.1.toNat).1 (by rw [e1]; exact a1)
    have b2 := (hmem e.2.toNat).2 (cls_iff.1 h1 e he b1)
    rw [e2] at b2
    exact a2 b2
  obtain ⟨S, s1, s2, s3⟩ := sink_in hG hrg hlv (fun e => h4 (by rw [e]; rfl))
  have hSr : ∃ r, r < N ∧ S = cls N E r := by
    rw [sink_eq hG] at s1
    obtain ⟨r, hr, rfl⟩ := List.mem_map.1 s1
    exact ⟨r, (reps_lt (List.mem_filter.1 hr).1).1, rfl⟩
  obtain ⟨r, hr, hSr⟩ := hSr
  have hsub : Sub (ofN S) (ofN L) := fun v hv => by
    rw [hSr, ← com_of hG hr, com_bit hG hr, Bool.and_eq_true, decide_eq_true_eq] at hv
    exact (hmem v).1 (s3 _ (by rw [hSr]; exact cls_mem.2 hv))
  have hmR : S ∈ minR N E := by
    unfold minR
    rw [if_pos h0, Int.toNat_natCast]
    split
    · rename_i hc
      exfalso
      rcases hq : sinkF N E with _ | ⟨x, t⟩
      · rw [hq] at s1; cases s1
      · rw [hq] at hc s1
        have ht : t = [] := List.eq_nil_of_length_eq_zero (by have := hc.1; simp at this; rw [this]; rfl)
        subst ht
        have hx : S = x := List.mem_singleton.1 s1
        have hlen : ((S.length : Nat) : Int) = N := by rw [hx]; exact hc.2
        rw [hSr] at hlen
        have hfull := (com_full hG hN hr).1 (by omega)
        rw [com_of hG hr, ← hSr] at hfull
        refine h5 (Sub.antisymm (fun v hv => ?_) (fun v hv => hsub v (by rw [hfull]; exact hv)))
        rw [Nat.testBit_two_pow_sub_one]
        exact decide_eq_true (h3 v hv)
    · exact s1
  rw [List.any_eq_true]
  refine ⟨S, hmR, decide_eq_true ?_⟩
  congr 1
  refine Sub.antisymm (fun v hv => ?_) (fun v hv => ?_)
  · rw [Nat.testBit_and, Bool.and_eq_true] at hv; exact hv.1
  · rw [Nat.testBit_and, hv, hsub v hv]; rfl
end
/-! ### a further edge -/
theorem code_inj {M i j : Nat} (hM : M ≤ 7) (hi : i < M * M) (hj : j < M * M) (h : i / M * 7 + i % M = j / M * 7 + j % M) : i = j := by
  have hM0 : 0 < M := by rcases Nat.eq_zero_or_pos M with e | e
                         · subst e; omega
                         · exact e
  have h1 := Nat.mod_lt i hM0
  have h2 := Nat.mod_lt j hM0
  have e1 := Nat.div_add_mod i M
  have e2 := Nat.div_add_mod j M
  have hd : i / M = j / M := by omega
  rw [hd] at e1
  omega
theorem further {M : Nat} (hM : M ≤ 7) {U : List Int} {e : Int} (hl : (netE M U).length < (netE M (U.take (min U.length 39) ++ [e])).length) : ∀ x ∈ netE M U, x ∈ netE M (U.take (min U.length 39) ++ [e]) := by
  have ht : U.take (min U.length 39) = U.take 39 := by
    rcases Nat.le_total U.length 39 with h | h
    · rw [Nat.min_eq_left h, List.take_of_length_le (Nat.le_refl _), List.take_of_length_le h]
    · rw [Nat.min_eq_right h]
  rw [ht] at hl ⊢
  obtain ⟨F, hF⟩ : ∃ F : Nat → Bool, F = fun i => (U.take 39).any fun u => decide (u % 49 = ((i / M * 7 + i % M : Nat) : Int)) := ⟨_, rfl⟩
  have n2 : ∀ i, netH M (U.take 39 ++ [e]) i = (F i || decide (e % 49 = ((i / M * 7 + i % M : Nat) : Int))) := fun i => by
    unfold netH
    rw [List.take_of_length_le (by rw [List.length_append, List.length_take]; simp; omega), List.any_append, hF]
    simp
  have n1 : ∀ i, F i = true → netH M U i = true := fun i h => by
    rw [hF] at h
    unfold netH
    rw [List.any_eq_true] at *
    obtain ⟨u, hu, h⟩ := h
    refine ⟨u, ?_, h⟩
    have : U.take 39 <+: U.take 40 := List.take_prefix_take_left (by decide)
    exact this.subset hu
  intro x hx
  obtain ⟨v, hv, hh, rfl⟩ := netE_mem hx
  refine List.mem_map.2 ⟨v, List.mem_filter.2 ⟨List.mem_range.2 hv, ?_⟩, rfl⟩
  refine Classical.byContradiction fun hno => ?_
  have hno : netH M (U.take 39 ++ [e]) v = false := by simpa using hno
  rw [n2, Bool.or_eq_false_iff] at hno
  have hnd : ∀ p : Nat → Bool, ((List.range (M * M)).filter p).Nodup := fun p => (List.nodup_range).filter _
  have a1 : ((List.range (M * M)).filter F).length + 1 ≤ (netE M U).length := by
    have := sub_lenG (A := v :: (List.range (M * M)).filter F) (B := (List.range (M * M)).filter (netH M U)) (List.nodup_cons.2 ⟨(fun h => by
      rw [(List.mem_filter.1 h).2] at hno; cases hno.1), hnd F⟩) fun y hy => by
      rcases List.mem_cons.1 hy with rfl | hy
      · exact List.mem_filter.2 ⟨List.mem_range.2 hv, hh⟩
      · exact List.mem_filter.2 ⟨(List.mem_filter.1 hy).1, n1 y (List.mem_filter.1 hy).2⟩
    unfold netE netK
    rw [List.length_map]
    rw [List.length_cons] at this
    exact this
  have a2 : (netE M (U.take 39 ++ [e])).length ≤ ((List.range (M * M)).filter F).length + 1 := by
    unfold netE netK
    rw [List.length_map]
    rcases Classical.em (∃ j, j < M * M ∧ e % 49 = ((j / M * 7 + j % M : Nat) : Int)) with ⟨j, hj, hj2⟩ | hnone
    · have := sub_lenG (A := (List.range (M * M)).filter (netH M (U.take 39 ++ [e]))) (B := j :: (List.range (M * M)).filter F) (hnd _) fun y hy => by
        obtain ⟨y1, y2⟩ := List.mem_filter.1 hy
        rw [n2, Bool.or_eq_true] at y2
        rcases y2 with y2 | y2
        · exact .tail _ (List.mem_filter.2 ⟨y1, y2⟩)
        · have y2 := of_decide_eq_true y2
          rw [code_inj hM (List.mem_range.1 y1) hj (by rw [hj2] at y2; exact (Int.ofNat_inj.1 y2).symm)]
          simp
      rw [List.length_cons] at this
      exact this
    · have := sub_lenG (A := (List.range (M * M)).filter (netH M (U.take 39 ++ [e]))) (B := (List.range (M * M)).filter F) (hnd _) fun y hy => by
        obtain ⟨y1, y2⟩ := List.mem_filter.1 hy
        rw [n2, Bool.or_eq_true] at y2
        rcases y2 with y2 | y2
        · exact List.mem_filter.2 ⟨y1, y2⟩
        · exact absurd ⟨y, List.mem_range.1 y1, of_decide_eq_true y2⟩ hnone
      omega
  omega
theorem cls_less {E F : List (Int × Int)} (h : ∀ x ∈ E, x ∈ F) {t : Nat} (hc : clsE F t = true) : clsE E t = true :=
  cls_iff.2 fun e he => cls_iff.1 hc e (h e he)
end Go.Proofs.YtbcjdjlihhlkaaaGreatDoor
