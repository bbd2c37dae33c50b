/- The plain law of the lower bound, third part: no schedule is shorter. -/
import Derived.Test.YtnlkffccobdbjaaGreatYX9
import Derived.Test.YtnlkffccobdbjaaGreatYX2
namespace Go.Proofs.YtnlkffccobdbjaaGreat
open Go Go.RowKit Go.Dw
section
variable {TT : List Tk} {SS : List Sn} {L : List Jb}
theorem rk_le {i : Nat} (h : TT.length ≤ (ordF TT).length) (hi : i < TT.length) : rkV TT i < TT.length := by
  have := List.idxOf_lt_length_of_mem (ordF_all h hi)
  have := ordF_le TT
  unfold rkV; omega
theorem tail_snd (hF : Fit TT) (hO : TT.length ≤ (ordF TT).length) (hL : Sch TT SS L) : ∀ (m : Nat) (i : Nat), TT.length - rkV TT i ≤ m → i < TT.length → stA L i + tlV TT i ≤ mspF TT L := by
  intro m
  induction m with
  | zero => intro i h hi; have := rk_le hO hi; omega
  | succ m ih =>
    intro i h hi
    have hm := tail_max hF hO hi
    have he := hL.msp.2.1 i hi
    rcases hm.a with e | ⟨k, ⟨hk, hin⟩, e⟩
    · omega
    · have hx := (inL_iff hF hk).1 hin
      have h1 := rk_lt hO hk hx
      rw [Int.toNat_natCast] at h1
      have h2 := hL.pr k hk _ hx
      rw [Int.toNat_natCast] at h2
      have h3 := rk_le hO hk
      have h4 := ih k (by omega) hk
      omega
theorem head_snd (hF : Fit TT) (hO : TT.length ≤ (ordF TT).length) (hL : Sch TT SS L) : ∀ (m : Nat) (i : Nat), rkV TT i ≤ m → i < TT.length → hdV TT i ≤ stA L i := by
  intro m
  induction m with
  | zero =>
    intro i h hi
    have hm := head_max hO hi
    rcases hm.a with e | ⟨k, hin, e⟩
    · rw [e]; exact (hL.s0 i hi).1
    · obtain ⟨x, hx, rfl⟩ := hin
      have := rk_lt hO hi hx
      omega
  | succ m ih =>
    intro i h hi
    have hm := head_max hO hi
    rcases hm.a with e | ⟨k, hin, e⟩
    · rw [e]; exact (hL.s0 i hi).1
    · obtain ⟨x, hx, rfl⟩ := hin
      have h1 := rk_lt hO hi hx
      have h2 := hL.pr i hi x hx
      have h3 := ih x.toNat (by omega) (by have := hF.a hi x hx; omega)
      omega
theorem sumD_perm {l m : List Int} (h : l.Perm m) : sumD TT l = sumD TT m := by
  induction h with
  | nil => rfl
  | cons x _ ih => rw [sumD_cons, sumD_cons, ih]
  | swap x y l => rw [sumD_cons, sumD_cons, sumD_cons, sumD_cons]; omega
  | trans _ _ h1 h2 => exact h1.trans h2
theorem ex_last (f : Int → Int) : ∀ (l : List Int), 0 < l.length → ∃ x ∈ l, ∀ y ∈ l, f y ≤ f x
  | [], h => by cases h
  | [x], _ => ⟨x, by simp, fun y hy => by rw [List.mem_singleton.1 hy]; exact Int.le_refl _⟩
  | x :: z :: l, _ => by
    obtain ⟨y, hy, h⟩ := ex_last f (z :: l) (by simp)
    by_cases hc : f y ≤ f x
    · exact ⟨x, by simp, fun w hw => by
        rcases List.mem_cons.1 hw with rfl | hw
        · exact Int.le_refl _
        · exact Int.le_trans (h w hw) hc⟩
    · exact ⟨y, List.mem_cons_of_mem _ hy, fun w hw => by
        rcases List.mem_cons.1 hw with rfl | hw
        · omega
        · exact h w hw⟩
/-- jobs of one station in a window are not longer than it -/
theorem window (hF : Fit TT) (hL : Sch TT SS L) {s : Int} {a : Int} : ∀ (m : Nat) (l : List Int) (b : Int), l.length ≤ m → l.Nodup → a ≤ b →
    (∀ x ∈ l, (0 ≤ x ∧ x < (TT.length : Int)) ∧ snA L x.toNat = s ∧ a ≤ stA L x.toNat ∧ stA L x.toNat + duA TT x.toNat ≤ b) → sumD TT l ≤ b - a := by
  intro m
  induction m with
  | zero =>
    intro l b h _ hab _
    obtain rfl : l = [] := List.eq_nil_of_length_eq_zero (by omega)
    show (0 : Int) ≤ b - a
    omega
  | succ m ih =>
    intro l b h hn hab hl
    rcases Nat.eq_zero_or_pos l.length with h0 | h0
    · obtain rfl : l = [] := List.eq_nil_of_length_eq_zero h0
      show (0 : Int) ≤ b - a
      omega
    · obtain ⟨x, hx, hmax⟩ := ex_last (fun x => stA L x.toNat) l h0
      obtain ⟨hxr, hxs, hxa, hxb⟩ := hl x hx
      have hp := List.perm_cons_erase hx
      rw [sumD_perm hp, sumD_cons]
      have hle : (l.erase x).length = l.length - 1 := List.length_erase_of_mem hx
      have := ih (l.erase x) (stA L x.toNat) (by omega) (hn.erase x) hxa fun y hy => by
        have hyl := List.mem_of_mem_erase hy
        have hyx : y ≠ x := (List.Nodup.mem_erase_iff hn).1 hy |>.1
        obtain ⟨hyr, hys, hya, hyb⟩ := hl y hyl
        refine ⟨hyr, hys, hya, ?_⟩
        have hm := hmax y hyl
        have hd := hF.d (i := x.toNat) (by omega)
        rcases hL.dj x.toNat y.toNat (by omega) (by omega) (by omega) (by rw [hxs, hys]) with g | g
        · omega
        · exact g
      omega
theorem spread (hF : Fit TT) (hL : Sch TT SS L) {a b : Int} (hab : a ≤ b) : ∀ (S : List Int) (l : List Int), l.Nodup →
    (∀ x ∈ l, (0 ≤ x ∧ x < (TT.length : Int)) ∧ snA L x.toNat ∈ S ∧ a ≤ stA L x.toNat ∧ stA L x.toNat + duA TT x.toNat ≤ b) → sumD TT l ≤ S.length * (b - a)
  | [], l, _, h => by
    cases l with
    | nil => simp [sumD]
    | cons x l => have := (h x (by simp)).2.1; cases this
  | s :: S, l, hn, h => by
    have hp : (l.filter (fun x => decide (snA L x.toNat = s)) ++ l.filter (fun x => !decide (snA L x.toNat = s))).Perm l := List.filter_append_perm _ l
    rw [← sumD_perm hp, sumD_app]
    have h1 := window hF hL (s := s) (a := a) _ (l.filter (fun x => decide (snA L x.toNat = s))) b (Nat.le_refl _) (hn.filter _) hab fun x hx => by
      obtain ⟨hx1, hx2⟩ := List.mem_filter.1 hx
      obtain ⟨g1, _, g3, g4⟩ := h x hx1
      exact ⟨g1, by simpa using hx2, g3, g4⟩
    have h2 := spread hF hL hab S (l.filter (fun x => !decide (snA L x.toNat = s))) (hn.filter _) fun x hx => by
      obtain ⟨hx1, hx2⟩ := List.mem_filter.1 hx
      obtain ⟨g1, g2, g3, g4⟩ := h x hx1
      have hne : ¬ snA L x.toNat = s := by simpa using hx2
      exact ⟨g1, (List.mem_cons.1 g2).resolve_left hne, g3, g4⟩
    rw [List.length_cons, show ((S.length + 1 : Nat) : Int) = (S.length : Int) + 1 by omega, Int.add_mul, Int.one_mul]
    omega
theorem ceil_le {n : Nat} (h0 : 0 < n) {s d : Int} (hd : 0 ≤ d) (h : s ≤ n * d) : (((s.toNat + n - 1) / n : Nat) : Int) ≤ d := by
  obtain ⟨k, rfl⟩ : ∃ k : Nat, d = k := ⟨d.toNat, by omega⟩
  have h2 : s.toNat ≤ n * k := by
    have : ((n * k : Nat) : Int) = (n : Int) * (k : Int) := Int.natCast_mul n k
    omega
  have : (s.toNat + n - 1) / n < k + 1 := by
    rw [Nat.div_lt_iff_lt_mul h0, Nat.add_mul, Nat.one_mul, Nat.mul_comm k n]; omega
  omega
/-- what a set of tasks proves, no schedule beats -/
theorem set_snd (hF : Fit TT) (hO : TT.length ≤ (ordF TT).length) (hL : Sch TT SS L) {T S : List Int} (hT0 : 0 < T.length) (hS0 : 0 < S.length) (hTn : T.Nodup) (hT : ∀ x ∈ T, (0 ≤ x ∧ x < (TT.length : Int)) ∧ (List.range SS.length).any (othP TT SS S x.toNat) = false) :
    shF TT (headF TT) (restF TT) T S.length ≤ mspF TT L := by
  have h1 : ∀ x ∈ T, minL (headF TT) T ≤ stA L x.toNat := fun x hx => Int.le_trans (minL_le hx) (head_snd hF hO hL _ _ (Nat.le_refl _) (by have := (hT x hx).1; omega))
  have h2 : ∀ x ∈ T, stA L x.toNat + duA TT x.toNat ≤ mspF TT L - minL (restF TT) T := fun x hx => by
    have hi : x.toNat < TT.length := by have := (hT x hx).1; omega
    have g1 := minL_le (H := restF TT) hx
    rw [rest_eq hO hi] at g1
    have g2 := tail_snd hF hO hL _ x.toNat (Nat.le_refl _) hi
    omega
  have hd := hd_mem hT0
  have hab : minL (headF TT) T ≤ mspF TT L - minL (restF TT) T := by
    have g1 := h1 _ hd
    have g2 := h2 _ hd
    have g3 := hF.d (i := (T.getD 0 0).toNat) (by have := (hT _ hd).1; omega)
    omega
  have h3 := spread hF hL hab S T hTn fun x hx => ⟨(hT x hx).1, by
    have hi : x.toNat < TT.length := by have := (hT x hx).1; omega
    obtain ⟨s0, s1⟩ := hL.st _ hi
    have hc := hL.can _ hi
    have hno := List.any_eq_false.1 (hT x hx).2 (snA L x.toNat).toNat (List.mem_range.2 (by omega))
    unfold othP at hno
    rw [hc, Bool.true_and] at hno
    have : ((snA L x.toNat).toNat : Int) ∈ S := by simpa using hno
    rwa [Int.toNat_of_nonneg s0] at this, h1 x hx, h2 x hx⟩
  have h4 := ceil_le hS0 (by omega) h3
  rw [sh_eq]
  generalize ((sumD TT T).toNat + S.length - 1) / S.length = d at h4 ⊢
  omega
/-- no schedule is shorter than what Lower gives -/
theorem low_snd (hF : Fit TT) (hE : shopE TT SS = 0) (hL : Sch TT SS L) : (lowF TT SS).1 ≤ mspF TT L := by
  have hO := (shop_ok hE).2.2.2.1
  rcases low_wit (TT := TT) (SS := SS) with h | ⟨s, le, af, hs, hn, h⟩
  · rw [h]
    obtain ⟨_, _, h3⟩ := crt_max hF hE
    rcases h3 with h | ⟨i, hi, h⟩
    · dsimp only; rw [h]; exact hL.msp.1
    · dsimp only
      rw [h]
      have := tail_snd hF hO hL _ i (Nat.le_refl _) hi
      have := (hL.s0 i hi).1
      omega
  · rw [h]
    refine set_snd hF hO hL (List.length_pos_iff.2 hn) (bitsI_pos (by omega) (by omega)) ?_ fun x hx => ⟨onF_mem hx, ?_⟩
    · rw [on_eq]; exact (natF_inc _ _).imp fun {a b} h => by omega
    · rw [on_eq] at hx
      obtain ⟨k, rfl, _, hp⟩ := natF_mem.1 hx
      rw [Int.toNat_natCast]; exact (onP_oth hp).2.2
end
end Go.Proofs.YtnlkffccobdbjaaGreat
