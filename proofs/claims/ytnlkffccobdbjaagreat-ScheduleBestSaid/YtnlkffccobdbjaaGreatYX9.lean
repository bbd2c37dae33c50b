/- The plain law of the lower bound, second part: the search of Lower finds the greatest bound that has a proof. -/
import Derived.Test.YtnlkffccobdbjaaGreatYX8
namespace Go.Proofs.YtnlkffccobdbjaaGreat
open Go Go.RowKit Go.Dw
theorem fold_up {β : Type} {f : Lx → β → Lx} (hf : ∀ x i, x.1 ≤ (f x i).1) : ∀ (l : List β) (x : Lx), x.1 ≤ (l.foldl f x).1
  | [], x => Int.le_refl _
  | i :: l, x => Int.le_trans (hf x i) (fold_up hf l (f x i))
theorem fold_uphit {β : Type} {f : Lx → β → Lx} {M : Int} (hf : ∀ x i, x.1 ≤ (f x i).1) {i : β} (h : ∀ x, M ≤ (f x i).1) : ∀ {l : List β} (x : Lx), i ∈ l → M ≤ (l.foldl f x).1
  | [], _, hi => by cases hi
  | j :: l, x, hi => by
    rcases List.mem_cons.1 hi with rfl | hi
    · exact Int.le_trans (h x) (fold_up hf l _)
    · exact fold_uphit hf h (f x j) hi
theorem fold_keep {β : Type} {f : Lx → β → Lx} {I : Lx → Prop} : ∀ {l : List β} {x : Lx}, (∀ i ∈ l, ∀ x, I x → I (f x i)) → I x → I (l.foldl f x)
  | [], _, _, h => h
  | i :: l, x, hf, h => fold_keep (l := l) (fun j hj => hf j (List.mem_cons_of_mem _ hj)) (hf i (by simp) x h)
theorem ddI_mem : ∀ {L : List Int} {x : Int}, x ∈ L → x ∈ ddI L
  | [], _, h => by cases h
  | [a], _, h => h
  | a :: b :: L, x, h => by
    have ih := fun y (hy : y ∈ b :: L) => ddI_mem (L := b :: L) hy
    unfold ddI
    split
    · rename_i e
      rcases List.mem_cons.1 h with rfl | h
      · exact ih _ (by first | simp [e] | simp [e.symm])
      · exact ih _ h
    · rcases List.mem_cons.1 h with rfl | h
      · simp
      · exact List.mem_cons_of_mem _ (ih _ h)
theorem dis_mem {L : List Int} {x : Int} (h : x ∈ L) : x ∈ disF L := ddI_mem ((srtI_perm _ L).mem_iff.2 h)
/-! ### least values -/
theorem minH_le (H : List Int) : ∀ (l : List Int) (x : Int), minH H x l ≤ x ∧ ∀ i ∈ l, minH H x l ≤ H.getD i.toNat 0
  | [], x => ⟨Int.le_refl _, nofun⟩
  | j :: l, x => by
    obtain ⟨h1, h2⟩ := minH_le H l (min x (H.getD j.toNat 0))
    have e : minH H x (j :: l) = minH H (min x (H.getD j.toNat 0)) l := rfl
    rw [e]
    refine ⟨by omega, fun i hi => ?_⟩
    rcases List.mem_cons.1 hi with rfl | hi
    · omega
    · exact h2 i hi
theorem minH_ge {H : List Int} {b : Int} : ∀ {l : List Int} {x : Int}, b ≤ x → (∀ i ∈ l, b ≤ H.getD i.toNat 0) → b ≤ minH H x l
  | [], _, h, _ => h
  | j :: l, x, h, hl => minH_ge (l := l) (x := min x (H.getD j.toNat 0)) (by have := hl j (by simp); omega) fun i hi => hl i (by simp [hi])
/-- the least of some -/
def minL (H l : List Int) : Int := minH H (H.getD (l.getD 0 0).toNat 0) l
theorem hd_mem {l : List Int} (h : 0 < l.length) : l.getD 0 0 ∈ l := by rw [gD h]; exact List.getElem_mem h
theorem minL_le {H l : List Int} {i : Int} (h : i ∈ l) : minL H l ≤ H.getD i.toNat 0 := (minH_le H l _).2 i h
theorem minL_ge {H l : List Int} {b : Int} (h0 : 0 < l.length) (h : ∀ i ∈ l, b ≤ H.getD i.toNat 0) : b ≤ minL H l := minH_ge (h _ (hd_mem h0)) h
theorem minH_at (H : List Int) : ∀ (l : List Int) (x : Int), minH H x l = x ∨ ∃ i ∈ l, minH H x l = H.getD i.toNat 0
  | [], x => .inl rfl
  | j :: l, x => by
    have e : minH H x (j :: l) = minH H (min x (H.getD j.toNat 0)) l := rfl
    rw [e]
    rcases minH_at H l (min x (H.getD j.toNat 0)) with h | ⟨i, hi, h⟩
    · rcases Int.le_total x (H.getD j.toNat 0) with g | g
      · left; rw [h]; omega
      · right; exact ⟨j, by simp, by rw [h]; omega⟩
    · right; exact ⟨i, by simp [hi], h⟩
theorem minL_at {H l : List Int} (h0 : 0 < l.length) : ∃ i ∈ l, minL H l = H.getD i.toNat 0 := by
  rcases minH_at H l (H.getD (l.getD 0 0).toNat 0) with h | h
  · exact ⟨_, hd_mem h0, h⟩
  · exact h
theorem sh_eq (TT : List Tk) (H R l : List Int) (st : Nat) : shF TT H R l st = minL H l + ((((sumD TT l).toNat + st - 1) / st : Nat) : Int) + minL R l := rfl
theorem sumD_app (TT : List Tk) (l m : List Int) : sumD TT (l ++ m) = sumD TT l + sumD TT m := by
  unfold sumD; rw [List.foldl_append, sumD_from]; rfl
theorem sumD_sub {TT : List Tk} (hF : Fit TT) {p q : Nat → Bool} (h : ∀ k, k < TT.length → p k = true → q k = true) : ∀ N, N ≤ TT.length → sumD TT (natL ((List.range N).filter p)) ≤ sumD TT (natL ((List.range N).filter q))
  | 0, _ => Int.le_refl _
  | N + 1, hN => by
    have ih := sumD_sub hF h N (by omega)
    have hd := hF.d (i := N) (by omega)
    have e : ∀ r : Nat → Bool, sumD TT (natL ((List.range (N + 1)).filter r)) = sumD TT (natL ((List.range N).filter r)) + if r N then duA TT N else 0 := fun r => by
      unfold natL
      rw [List.range_succ, List.filter_append, List.map_append, sumD_app]
      by_cases hr : r N = true
      · rw [if_pos hr, List.filter_cons_of_pos hr]; simp [sumD]
      · rw [if_neg hr, List.filter_cons_of_neg hr]; simp [sumD]
    rw [e p, e q]
    have := h N (by omega)
    split <;> split <;> (first | omega | (rename_i g1 g2; exact absurd (this g1) g2))
theorem sumD_nn {TT : List Tk} (hF : Fit TT) : ∀ {l : List Int}, (∀ x ∈ l, 0 ≤ x ∧ x < (TT.length : Int)) → 0 ≤ sumD TT l
  | [], _ => Int.le_refl _
  | x :: l, h => by
    rw [sumD_cons]
    have := hF.d (i := x.toNat) (by have := h x (by simp); omega)
    have := sumD_nn hF (l := l) fun y hy => h y (by simp [hy])
    omega
/-! ### the search -/
section
variable {TT : List Tk} {SS : List Sn}
/-- how a bound was found -/
def Wit (TT : List Tk) (SS : List Sn) (x : Lx) : Prop :=
  x = ((crtR TT SS).1, (crtR TT SS).2, [], []) ∨ ∃ s le af, s < 2 ^ SS.length - 1 ∧ onF TT SS (bitsI (s + 1) SS.length) (headF TT) (restF TT) le af ≠ [] ∧
    x = (shF TT (headF TT) (restF TT) (onF TT SS (bitsI (s + 1) SS.length) (headF TT) (restF TT) le af) (bitsI (s + 1) SS.length).length, [], onF TT SS (bitsI (s + 1) SS.length) (headF TT) (restF TT) le af, bitsI (s + 1) SS.length)
theorem loA_wit {s : Nat} {le af : Int} {x : Lx} (hs : s < 2 ^ SS.length - 1) (h : Wit TT SS x) : Wit TT SS (loA TT SS (headF TT) (restF TT) (bitsI (s + 1) SS.length) le x af) := by
  unfold loA
  split
  · exact h
  · rename_i hn
    split
    · exact .inr ⟨s, le, af, hs, hn, rfl⟩
    · exact h
theorem loA_up {H R B : List Int} {le : Int} (x : Lx) (af : Int) : x.1 ≤ (loA TT SS H R B le x af).1 := by
  unfold loA
  split
  · exact Int.le_refl _
  · split
    · dsimp only; omega
    · exact Int.le_refl _
theorem loA_hit {H R B : List Int} {le af : Int} (h : onF TT SS B H R le af ≠ []) (x : Lx) : shF TT H R (onF TT SS B H R le af) B.length ≤ (loA TT SS H R B le x af).1 := by
  unfold loA
  rw [if_neg h]
  split
  · exact Int.le_refl _
  · omega
theorem low_wit : Wit TT SS (lowF TT SS) := by
  unfold lowF
  refine fold_keep (fun s hs x h => ?_) (.inl rfl)
  refine fold_keep (fun le _ x h => ?_) h
  refine fold_keep (fun af _ x h => ?_) h
  exact loA_wit (List.mem_range.1 hs) h
theorem low_hit {s : Nat} {le af : Int} (hs : s < 2 ^ SS.length - 1) (hl : le ∈ disF (headF TT)) (ha : af ∈ disF (restF TT)) (h : onF TT SS (bitsI (s + 1) SS.length) (headF TT) (restF TT) le af ≠ []) :
    shF TT (headF TT) (restF TT) (onF TT SS (bitsI (s + 1) SS.length) (headF TT) (restF TT) le af) (bitsI (s + 1) SS.length).length ≤ (lowF TT SS).1 := by
  unfold lowF
  have u1 : ∀ B le (x : Lx) (af : Int), x.1 ≤ (loA TT SS (headF TT) (restF TT) B le x af).1 := fun B le x af => loA_up x af
  have u2 : ∀ B (x : Lx) (le : Int), x.1 ≤ (loL TT SS (headF TT) (restF TT) B x le).1 := fun B x le => fold_up (u1 B le) _ x
  have u3 : ∀ (x : Lx) (s : Nat), x.1 ≤ (loS TT SS (headF TT) (restF TT) x s).1 := fun x s => fold_up (u2 _) _ x
  refine fold_uphit u3 (fun x => ?_) _ (List.mem_range.2 hs)
  refine fold_uphit (u2 _) (fun x => ?_) x hl
  exact fold_uphit (u1 _ _) (fun x => loA_hit h x) x ha
theorem low_crt : (crtR TT SS).1 ≤ (lowF TT SS).1 := by
  unfold lowF
  have u1 : ∀ B le (x : Lx) (af : Int), x.1 ≤ (loA TT SS (headF TT) (restF TT) B le x af).1 := fun B le x af => loA_up x af
  have u2 : ∀ B (x : Lx) (le : Int), x.1 ≤ (loL TT SS (headF TT) (restF TT) B x le).1 := fun B x le => fold_up (u1 B le) _ x
  exact fold_up (fun x s => fold_up (u2 _) _ x) (List.range (2 ^ SS.length - 1)) ((crtR TT SS).1, (crtR TT SS).2, [], [])
theorem tlV_mem (hF : Fit TT) {i : Nat} (hi : i < TT.length) : tlV TT i ∈ tailsF TT := by
  have hl := tails_len hF
  unfold tlV
  rw [gD (by omega)]; exact List.getElem_mem _
theorem crt_max (hF : Fit TT) (hE : shopE TT SS = 0) : 0 ≤ (crtR TT SS).1 ∧ (∀ i, i < TT.length → tlV TT i ≤ (crtR TT SS).1) ∧ ((crtR TT SS).1 = 0 ∨ ∃ i, i < TT.length ∧ (crtR TT SS).1 = tlV TT i) := by
  have hl := tails_len hF
  unfold crtR
  by_cases h0 : 0 < TT.length
  · rw [if_pos ⟨hE, h0⟩]
    have hm := mx_mem (L := tailsF TT) (by omega)
    obtain ⟨i, hi, e⟩ := List.mem_iff_getElem.1 hm
    have e2 : tlV TT i = (tailsF TT)[i] := gD hi
    refine ⟨?_, fun i hi => mx_ge _ (tlV_mem hF hi), .inr ⟨i, by omega, by dsimp only; rw [e2, e]⟩⟩
    dsimp only
    rw [← e, ← e2]; exact (tlv_rng hF (by omega)).1
  · rw [if_neg (fun h => h0 h.2)]
    exact ⟨Int.le_refl _, fun i hi => by omega, .inl rfl⟩
theorem crt_chain (hF : Fit TT) (hE : shopE TT SS = 0) : lkF TT (-1) (crtR TT SS).2 ∧ sumD TT (crtR TT SS).2 = (crtR TT SS).1 := by
  have hO := (shop_ok hE).2.2.2.1
  obtain ⟨h1, h2, h3⟩ := crt_max hF hE
  by_cases h0 : 0 < TT.length
  · have e : crtR TT SS = (mxF (tailsF TT), crtF TT (tailsF TT) ((mxF (tailsF TT)).toNat + 1) (-1) (mxF (tailsF TT))) := by unfold crtR; rw [if_pos ⟨hE, h0⟩]
    rw [e] at h1 h3 ⊢
    dsimp only at *
    refine crt_ok hF hO _ _ _ (by omega) h1 ?_
    rcases h3 with h | ⟨i, hi, h⟩
    · exact .inl h
    · exact .inr ⟨i, hi, h.symm, .inl (by decide)⟩
  · have e : crtR TT SS = (0, []) := by unfold crtR; rw [if_neg (fun h => h0 h.2)]
    rw [e]; exact ⟨trivial, rfl⟩
theorem onP_oth {B H R : List Int} {le af : Int} {k : Nat} (h : onP TT SS B H R le af k = true) : le ≤ H.getD k 0 ∧ af ≤ R.getD k 0 ∧ (List.range SS.length).any (othP TT SS B k) = false := by
  unfold onP at h
  rw [Bool.and_eq_true, Bool.and_eq_true] at h
  obtain ⟨h1, h2, h3⟩ := h
  refine ⟨?_, ?_, by simpa using h3⟩
  · have : ¬ H.getD k 0 < le := by simpa using h1
    omega
  · have : ¬ R.getD k 0 < af := by simpa using h2
    omega
theorem on_eq (B H R : List Int) (le af : Int) : onF TT SS B H R le af = natL ((List.range TT.length).filter (onP TT SS B H R le af)) := rfl
theorem wit_prv (hF : Fit TT) (hE : shopE TT SS = 0) {x : Lx} (h : Wit TT SS x) : prvF TT SS x.2.1 x.2.2.1 x.2.2.2 = (x.1, true) := by
  rcases h with rfl | ⟨s, le, af, hs, hn, rfl⟩
  · obtain ⟨h1, h2⟩ := crt_chain hF hE
    dsimp only
    unfold prvF
    rw [lk_chn h1, if_neg (by decide), if_pos (.inr rfl), h2]
  · dsimp only
    have hB : 0 < (bitsI (s + 1) SS.length).length := bitsI_pos (by omega) (by omega)
    have hT : 0 < (onF TT SS (bitsI (s + 1) SS.length) (headF TT) (restF TT) le af).length := List.length_pos_iff.2 hn
    unfold prvF
    rw [if_neg (fun h => by cases h), if_neg (fun h => h.elim (fun h => by cases h) fun h => by omega), if_neg (by omega), if_neg]
    intro h
    unfold othA at h
    obtain ⟨x, hx, h2⟩ := List.any_eq_true.1 h
    rw [on_eq] at hx
    obtain ⟨k, rfl, hk, hp⟩ := natF_mem.1 hx
    rw [Int.toNat_natCast, (onP_oth hp).2.2] at h2
    cases h2
theorem set_le (hF : Fit TT) (hN : TT.length ≤ 16) (hM : SS.length ≤ 16) {A B : Nat} (hA : A < 2 ^ TT.length) (hB : B < 2 ^ SS.length) (h0 : 0 < A) (h2 : (setP TT SS A B).2 = true) : (setP TT SS A B).1 ≤ (lowF TT SS).1 := by
  have e1 : bitsI A 16 = natL ((List.range TT.length).filter (bitsP A)) := bits_short hA hN
  have e2 : bitsI B 16 = bitsI B SS.length := bits_short hB hM
  have hTl : 0 < (bitsI A 16).length := bitsI_pos h0 (Nat.lt_of_lt_of_le hA (Nat.pow_le_pow_right (by decide) hN))
  have hsp : setP TT SS A B = prvF TT SS [] (bitsI A 16) (bitsI B 16) := rfl
  obtain ⟨T, hT⟩ : ∃ T, T = bitsI A 16 := ⟨_, rfl⟩
  obtain ⟨S, hS⟩ : ∃ S, S = bitsI B 16 := ⟨_, rfl⟩
  rw [← hT, ← hS] at hsp
  rw [← hT] at e1 hTl
  rw [← hS] at e2
  unfold prvF at hsp
  rw [if_neg (fun h => by cases h), if_neg (fun h => h.elim (fun h => by cases h) fun h => by omega)] at hsp
  by_cases hSl : S.length = 0
  · rw [if_pos hSl] at hsp; rw [hsp] at h2; cases h2
  · rw [if_neg hSl] at hsp
    by_cases ho : othA TT SS T S = true
    · rw [if_pos ho] at hsp; rw [hsp] at h2; cases h2
    · rw [if_neg ho] at hsp
      rw [hsp]
      dsimp only
      clear hsp h2
      have hB0 : 0 < B := by
        rcases Nat.eq_zero_or_pos B with h | h
        · subst h
          exfalso
          apply hSl
          rw [hS]
          unfold bitsI natL
          rw [List.filter_eq_nil_iff.2 fun k _ => by rw [bitsP_test, Nat.zero_testBit]; decide]; rfl
        · exact h
      obtain ⟨s, rfl⟩ : ∃ s, B = s + 1 := ⟨B - 1, by omega⟩
      have hmem : ∀ x ∈ T, ∃ k : Nat, x = k ∧ k < TT.length ∧ bitsP A k = true := fun x hx => by rw [e1] at hx; exact natF_mem.1 hx
      have hon : ∀ k, k < TT.length → bitsP A k = true → onP TT SS S (headF TT) (restF TT) (minL (headF TT) T) (minL (restF TT) T) k = true := fun k hk hp => by
        have hkT : (k : Int) ∈ T := by rw [e1]; exact natF_mem.2 ⟨k, rfl, hk, hp⟩
        have g1 := minL_le (H := headF TT) hkT
        have g2 := minL_le (H := restF TT) hkT
        rw [Int.toNat_natCast] at g1 g2
        have g3 : (List.range SS.length).any (othP TT SS S k) = false := by
          cases e : (List.range SS.length).any (othP TT SS S k) with
          | false => rfl
          | true => exact absurd (List.any_eq_true.2 ⟨(k : Int), hkT, by rw [Int.toNat_natCast]; exact e⟩) ho
        unfold onP
        rw [g3, decide_eq_false (by omega), decide_eq_false (by omega)]; rfl
      obtain ⟨j1, hj1, ej1⟩ := minL_at (H := headF TT) hTl
      obtain ⟨j2, hj2, ej2⟩ := minL_at (H := restF TT) hTl
      obtain ⟨k1, rfl, hk1, -⟩ := hmem j1 hj1
      obtain ⟨k2, rfl, hk2, -⟩ := hmem j2 hj2
      rw [Int.toNat_natCast] at ej1 ej2
      have hin : ∀ {k : Nat} {H : List Int}, k < TT.length → H.length = TT.length → H.getD k 0 ∈ disF H := fun {k H} hk hH => dis_mem (by rw [gD (by omega)]; exact List.getElem_mem _)
      have hUT : ∀ x ∈ T, x ∈ onF TT SS S (headF TT) (restF TT) (minL (headF TT) T) (minL (restF TT) T) := fun x hx => by
        obtain ⟨k, rfl, hk, hp⟩ := hmem x hx
        rw [on_eq]; exact natF_mem.2 ⟨k, rfl, hk, hon k hk hp⟩
      have hUl : 0 < (onF TT SS S (headF TT) (restF TT) (minL (headF TT) T) (minL (restF TT) T)).length := List.length_pos_of_mem (hUT _ (hd_mem hTl))
      have key := low_hit (TT := TT) (SS := SS) (s := s) (le := minL (headF TT) T) (af := minL (restF TT) T) (by omega) (by rw [ej1]; exact hin hk1 (head_bd hF).1) (by rw [ej2]; exact hin hk2 (rest_rb hF).1) (by rw [← e2]; exact List.length_pos_iff.1 hUl)
      rw [← e2] at key
      refine Int.le_trans ?_ key
      rw [sh_eq, sh_eq]
      have m1 : minL (headF TT) T ≤ minL (headF TT) (onF TT SS S (headF TT) (restF TT) (minL (headF TT) T) (minL (restF TT) T)) := minL_ge hUl fun i hi => by
        rw [on_eq] at hi
        obtain ⟨k, rfl, _, hp⟩ := natF_mem.1 hi
        rw [Int.toNat_natCast]; exact (onP_oth hp).1
      have m2 : minL (restF TT) T ≤ minL (restF TT) (onF TT SS S (headF TT) (restF TT) (minL (headF TT) T) (minL (restF TT) T)) := minL_ge hUl fun i hi => by
        rw [on_eq] at hi
        obtain ⟨k, rfl, _, hp⟩ := natF_mem.1 hi
        rw [Int.toNat_natCast]; exact (onP_oth hp).2.1
      have m3 : sumD TT T ≤ sumD TT (onF TT SS S (headF TT) (restF TT) (minL (headF TT) T) (minL (restF TT) T)) := by
        rw [on_eq]
        conv => lhs; rw [e1]
        exact sumD_sub hF hon TT.length (Nat.le_refl _)
      have m4 : ((sumD TT T).toNat + S.length - 1) / S.length ≤ ((sumD TT (onF TT SS S (headF TT) (restF TT) (minL (headF TT) T) (minL (restF TT) T))).toNat + S.length - 1) / S.length := Nat.div_le_div_right (by omega)
      generalize ((sumD TT T).toNat + S.length - 1) / S.length = d1 at m4 ⊢
      generalize ((sumD TT (onF TT SS S (headF TT) (restF TT) (minL (headF TT) T) (minL (restF TT) T))).toNat + S.length - 1) / S.length = d2 at m4 ⊢
      omega
/-- Lower gives the greatest bound that has a proof -/
theorem low_max (hF : Fit TT) (hE : shopE TT SS = 0) (hN : TT.length ≤ 16) (hM : SS.length ≤ 16) : LwM TT SS (lowF TT SS).1 := by
  obtain ⟨h1, h2, h3⟩ := crt_max hF hE
  have hc := low_crt (TT := TT) (SS := SS)
  refine ⟨by omega, fun i hi => by have := h2 i hi; omega, fun A B hq h0 h2 => set_le hF hN hM hq.1 hq.2 h0 h2, ?_⟩
  have hw := low_wit (TT := TT) (SS := SS)
  have hp := wit_prv hF hE hw
  rcases hw with h | ⟨s, le, af, hs, hn, h⟩
  · rw [h]
    rcases h3 with h | h
    · exact .inl h
    · exact .inr (.inl h)
  · obtain ⟨A, hA, eA⟩ := bits_of (onP TT SS (bitsI (s + 1) SS.length) (headF TT) (restF TT) le af) hN
    rw [← on_eq] at eA
    have e2 : bitsI (s + 1) 16 = bitsI (s + 1) SS.length := bits_short (by omega) hM
    rw [h] at hp ⊢
    dsimp only at *
    have e3 : setP TT SS A (s + 1) = (shF TT (headF TT) (restF TT) (onF TT SS (bitsI (s + 1) SS.length) (headF TT) (restF TT) le af) (bitsI (s + 1) SS.length).length, true) := by
      unfold setP; rw [eA, e2, hp]
    refine .inr (.inr ⟨A, s + 1, ⟨hA, by omega⟩, ?_, by rw [e3], by rw [e3]⟩)
    rcases Nat.eq_zero_or_pos A with g | g
    · subst g
      exfalso
      apply hn
      rw [← eA]
      unfold bitsI natL
      rw [List.filter_eq_nil_iff.2 fun k _ => by rw [bitsP_test, Nat.zero_testBit]; decide]; rfl
    · exact g
/-- its proof is accepted for just its bound -/
theorem low_vf (hF : Fit TT) (hE : shopE TT SS = 0) {b : Int} : vfE TT SS b (lowF TT SS).2.1 (lowF TT SS).2.2.1 (lowF TT SS).2.2.2 = if b ≤ (lowF TT SS).1 then 0 else 27 := by
  have hw := low_wit (TT := TT) (SS := SS)
  have hp := wit_prv hF hE hw
  obtain ⟨x, hx⟩ : ∃ x, x = lowF TT SS := ⟨_, rfl⟩
  rw [← hx] at hw hp ⊢
  have hform : ¬ (0 < x.2.1.length ∧ 0 < x.2.2.1.length + x.2.2.2.length) ∧ (∀ y ∈ x.2.1, 0 ≤ y ∧ y < (TT.length : Int)) ∧ (∀ y ∈ x.2.2.1, 0 ≤ y ∧ y < (TT.length : Int)) ∧ (∀ y ∈ x.2.2.2, 0 ≤ y ∧ y < (SS.length : Int)) ∧ incF x.2.2.1 = true ∧ incF x.2.2.2 = true := by
    rcases hw with rfl | ⟨s, le, af, hs, hn, rfl⟩
    · exact ⟨fun h => by have := h.2; simp at this, lk_rng (crt_chain hF hE).1, nofun, nofun, rfl, rfl⟩
    · refine ⟨fun h => by have := h.1; simp at this, nofun, fun y hy => onF_mem hy, fun y hy => bits_lt (N := SS.length) (by omega) y hy, inc_incF (natF_inc _ _), inc_incF (natF_inc _ _)⟩
  obtain ⟨f1, f2, f3, f4, f5, f6⟩ := hform
  unfold vfE
  rw [if_neg (fun h => h hE), if_neg f1, byF_no f2, byF_no f3, byF_no f4, f5, f6, if_neg (by decide), if_neg (by decide), pv_prv (fun h => f1 ⟨h.1, by omega⟩), hp, Bool.true_and]
  by_cases hb : b ≤ x.1
  · rw [if_pos hb, if_neg (by simpa using hb)]
  · rw [if_neg hb, if_pos (by simpa using hb)]
end
end Go.Proofs.YtnlkffccobdbjaaGreat
