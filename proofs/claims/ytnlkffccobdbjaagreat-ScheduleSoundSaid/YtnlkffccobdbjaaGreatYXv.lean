/- The lengths of the proof that Lower gives, and a bound of its number. -/
import Derived.Test.YtnlkffccobdbjaaGreatYY2
namespace Go.Proofs.YtnlkffccobdbjaaGreat
open Go Go.RowKit Go.Dw
theorem lk_len {TT : List Tk} (hO : TT.length ≤ (ordF TT).length) : ∀ {C : List Int} {last : Int}, lkF TT last C → 0 ≤ last → last < (TT.length : Int) → C.length + rkV TT last.toNat < TT.length
  | [], last, _, h0, h1 => by have := rk_le hO (i := last.toNat) (by omega); simp; exact this
  | x :: C, last, h, h0, h1 => by
    have ih := lk_len hO h.2.2 h.2.1.1 h.2.1.2
    rcases h.1 with g | g
    · omega
    · have := rk_lt hO (i := x.toNat) (by have := h.2.1; omega) g
      rw [List.length_cons]; omega
theorem lk_len0 {TT : List Tk} (hO : TT.length ≤ (ordF TT).length) {C : List Int} (h : lkF TT (-1) C) : C.length ≤ TT.length := by
  cases C with
  | nil => exact Nat.zero_le _
  | cons x C =>
    have := lk_len hO h.2.2 h.2.1.1 h.2.1.2
    rw [List.length_cons]; omega
theorem low_len {TT : List Tk} {SS : List Sn} (hF : Fit TT) (hE : shopE TT SS = 0) : (lowF TT SS).2.1.length ≤ TT.length ∧ (lowF TT SS).2.2.1.length ≤ TT.length ∧ (lowF TT SS).2.2.2.length ≤ SS.length := by
  rcases low_wit (TT := TT) (SS := SS) with h | ⟨s, le, af, hs, hn, h⟩
  · rw [h]; exact ⟨lk_len0 (shop_ok hE).2.2.2.1 (crt_chain hF hE).1, Nat.zero_le _, Nat.zero_le _⟩
  · rw [h]; exact ⟨Nat.zero_le _, onK_len _ _ _ _ _ _ _ _, bitsI_len _ _⟩
theorem low_bd {TT : List Tk} {SS : List Sn} (hF : Fit TT) (hE : shopE TT SS = 0) : (lowF TT SS).1 ≤ 100000000 := by
  have h0 : Sch TT SS (bst0 TT SS) := lis_sch hF hE (prL_ord TT (tailsF TT) 1)
  refine Int.le_trans (low_snd hF hE h0) (h0.msp_le (by decide) fun i hi => ?_)
  have := h0.s0 i hi
  have := hF.d hi
  omega
end Go.Proofs.YtnlkffccobdbjaaGreat
