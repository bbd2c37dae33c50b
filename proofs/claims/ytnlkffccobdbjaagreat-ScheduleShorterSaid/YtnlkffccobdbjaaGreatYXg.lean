/- Contracts of the model of layer 50: proved, verify. Their premises are their own. -/
import Derived.Test.YtnlkffccobdbjaaGreatYXf
namespace Go.Proofs.YtnlkffccobdbjaaGreat
open Go Go.RowKit Go.Dw
def othA (TT : List Tk) (SS : List Sn) (T S : List Int) : Bool := T.any fun i => (List.range SS.length).any (othP TT SS S i.toNat)
/-- what a proof proves -/
def prvF (TT : List Tk) (SS : List Sn) (C T S : List Int) : Int × Bool :=
  if (List.range C.length).any (chnP TT C) = true then (0, false) else if 0 < C.length ∨ T.length = 0 then (sumD TT C, true) else if S.length = 0 then (0, false)
  else if othA TT SS T S = true then (0, false) else (shF TT (headF TT) (restF TT) T S.length, true)
theorem pv_prv {TT : List Tk} {SS : List Sn} {C T S : List Int} (h : ¬ (0 < C.length ∧ 0 < T.length)) (b : Int) : pvF TT SS b C T S = ((prvF TT SS C T S).2 && decide (b ≤ (prvF TT SS C T S).1)) := by
  unfold pvF prvF
  by_cases hT : T = []
  · rw [if_pos hT]
    subst hT
    cases (List.range C.length).any (chnP TT C) with
    | true => rfl
    | false => rw [if_neg (by decide), if_pos (.inr rfl)]; rfl
  · rw [if_neg hT]
    have hT2 : 0 < T.length := List.length_pos_iff.2 hT
    have hC : C = [] := List.eq_nil_of_length_eq_zero (by omega)
    subst hC
    have hn : ¬ (List.range ([] : List Int).length).any (chnP TT []) = true := fun h => by cases h
    have hh : ¬ (0 < ([] : List Int).length ∨ T.length = 0) := fun h => h.elim (fun h => by cases h) fun h => by omega
    by_cases hS : S = []
    · subst hS
      rw [if_pos (show ([] : List Int) = [] from rfl), if_neg hn, if_neg hh, if_pos (show ([] : List Int).length = 0 from rfl)]
      rfl
    · have hS2 : 0 < S.length := List.length_pos_iff.2 hS
      rw [if_neg hS, if_neg hn, if_neg hh, if_neg (show ¬ S.length = 0 by omega)]
      show (!othA TT SS T S && _) = _
      cases othA TT SS T S with
      | true => rfl
      | false => rfl
def mnP (H T : List Int) (k : Nat) (l : Int) : Prop := (k = 0 ∧ l = -1) ∨ (0 < k ∧ l = minH H (H.getD (T.getD 0 0).toNat 0) (T.take k) ∧ 0 ≤ l ∧ l ≤ 1000000000000)
theorem mn_step {H T : List Int} {k : Nat} {l h : Int} (hm : mnP H T k l) (hk : k < T.length) (hh : h = H.getD T[k].toNat 0) (h0 : 0 ≤ h) (h1 : h ≤ 1000000000000) :
    (l < 0 → mnP H T (k + 1) h) ∧ (¬ l < 0 → h < l → mnP H T (k + 1) h) ∧ (¬ l < 0 → ¬ h < l → mnP H T (k + 1) l) := by
  rcases hm with ⟨rfl, e⟩ | ⟨hk0, e, e0, e1⟩
  · refine ⟨fun _ => .inr ⟨Nat.succ_pos _, ?_, h0, h1⟩, fun h => by omega, fun h => by omega⟩
    rw [List.take_succ_eq_append_getElem hk, minH_snoc, gD hk]
    show h = min (H.getD T[0].toNat 0) (H.getD T[0].toNat 0)
    omega
  · refine ⟨fun h => by omega, fun _ hlt => .inr ⟨Nat.succ_pos _, ?_, h0, h1⟩, fun _ hlt => .inr ⟨Nat.succ_pos _, ?_, e0, e1⟩⟩
    · rw [List.take_succ_eq_append_getElem hk, minH_snoc, ← e, ← hh]; omega
    · rw [List.take_succ_eq_append_getElem hk, minH_snoc, ← e, ← hh]; omega
section
variable {a a' : Option Addr} {n c n' c' : Nat} {TT : List Tk} {SS : List Sn}
set_option maxHeartbeats 1000000 in
set_option maxRecDepth 10000 in
theorem proved_spec {ac : Option Addr} {nc cc : Nat} {at' : Option Addr} {nt ct : Nat} {as0 : Option Addr} {ns cs' : Nat} {C T S : List Int} (w : World) (hT : Sl encT 4 (Hp.whole w) a n c TT) (hS : Sl encN 2 (Hp.whole w) a' n' c' SS) (hs : Sml TT SS) (hE : shopE TT SS = 0)
    (hc : Sl (encF fI) 1 (Hp.whole w) ac nc cc C) (ht : Sl (encF fI) 1 (Hp.whole w) at' nt ct T) (hst : Sl (encF fI) 1 (Hp.whole w) as0 ns cs' S) (rC : ∀ x ∈ C, 0 ≤ x ∧ x < (TT.length : Int)) (rT : ∀ x ∈ T, 0 ≤ x ∧ x < (TT.length : Int)) (lC : C.length < 1000) (lT : T.length < 1000) (lS : S.length < 1000) :
    CallsE Tryz.prog 54 #[sv a n c a' n' c', .agg #[.slice ac nc cc, .slice at' nt ct, .slice as0 ns cs']] w (RetV w (.tuple #[.int .i64 (prvF TT SS C T S).1, .bool (prvF TT SS C T S).2])) := by
  have kT := hT.len
  have kS := hS.len
  have kc := hc.len
  have kt := ht.len
  have ks := hst.len
  have hF := fit_of hs hE
  have hO := (shop_ok hE).2.2.2.1
  have hM := (shop_ok hE).2.1
  obtain ⟨pr, hpr⟩ : ∃ pr, pr = prvF TT SS C T S := ⟨_, rfl⟩
  have hp := hpr
  unfold prvF at hp
  rw [← hpr]
  refine enter (X := cx 143) (cxg _) (args := [.agg #[.slice a n c, .slice a' n' c'], .agg #[.slice ac nc cc, .slice at' nt ct, .slice as0 ns cs']]) [.tmp 4, .tmp 5] Tryz.func54 rfl rfl rfl rfl rfl ?_
  intro b2
  intro b3
  refine NeedL.mk (Nat × Int) (fun g => [(2, .bx 1 0), (3, .bx 2 0), (6, .v (.int .i64 g.2)), (17, .v (.slice ac nc cc)), (18, .v (.int .i64 nc)), (19, .v (.int .i64 g.1))]) (fun _ => [.hp (Hp.whole w), .box b2 [.slice a n c, .slice a' n' c'] 25, .box b3 [.slice ac nc cc, .slice at' nt ct, .slice as0 ns cs'] 30])
    (fun g => g.1 ≤ nc ∧ g.2 = sumD TT (C.take g.1) ∧ (0 ≤ g.2 ∧ g.2 ≤ 1048576 * g.1) ∧ ∀ j, j < g.1 → chnP TT C j = false) (fun g => nc - g.1) (0, 0) ⟨Nat.zero_le _, rfl, ⟨Int.le_refl _, by dsimp only; omega⟩, fun j hj => by dsimp only at hj; omega⟩ (Ent.mk (fun _ _ h => h) rfl rfl) ?_
  rintro ⟨k, s⟩ ⟨hk, hsm, hsb, hall⟩
  dsimp only at *
  refine bsplitd (fun h2 => ?_) (fun h2 => ?_)
  · have hkC : k < C.length := by omega
    obtain ⟨x, hx⟩ : ∃ x, x = C[k] := ⟨_, rfl⟩
    have hxr := rC x (by rw [hx]; exact List.getElem_mem hkC)
    have hxT : x.toNat < TT.length := by omega
    obtain ⟨t, htd⟩ : ∃ t, t = TT[x.toNat] := ⟨_, rfl⟩
    have htm : t ∈ TT := by rw [htd]; exact List.getElem_mem hxT
    have hdu := hF.du t htm
    have hal := hF.al t htm
    have n1 : sumD TT (C.take (k + 1)) = s + t.du := by rw [List.take_succ_eq_append_getElem hkC, sumD_snoc, ← hsm, ← hx]; unfold duA; rw [tk_get hxT, ← htd]
    have hP : chnP TT C k = (decide (0 < k) && !decide (C.getD (k - 1) 0 ∈ t.af)) := by unfold chnP afA; rw [gD hkC, ← hx, tk_get hxT, ← htd]
    refine idx (cxg _) (e := 3) rfl hc k rfl hkC (fun b9 o9 cs hcs hR hcell3 => ?_)
    rw [← hx] at hR
    subst hR
    refine ld1 (cxg _) (i := 0) rfl (hcell3 0 _ rfl) rfl ?_
    refine NeedD.cut Unit (fun _ => [(2, .bx 1 0), (3, .bx 2 0), (6, .v (.int .i64 s)), (8, .v (.int .i64 x)), (17, .v (.slice ac nc cc)), (18, .v (.int .i64 nc)), (19, .v (.int .i64 k)), (41, .v (.bool (chnP TT C k)))]) (fun _ => [.hp (Hp.whole w), .box b2 [.slice a n c, .slice a' n' c'] 25, .box b3 [.slice ac nc cc, .slice at' nt ct, .slice as0 ns cs'] 30]) (fun _ => True) (NeedD.by_order (cxg _) (.take 0 <| .take 1 <| .take 2 <| .take 3 <| .take 4 <| .take 5 <| .take 6 <| .take 7 <| .take 8 <| .take 9 <| .take 10 <| .take 11 <| .take 12 <| .take 13 <| .take 14 <| .run 15 <| .take 16 <| .take 17 <| .done) (by kernel_rfl) ?_) ?_
    · refine bsplitd (fun h5 => ?_) (fun h5 => ?_)
      · have hk1 : k - 1 < C.length := by omega
        obtain ⟨y, hy⟩ : ∃ y, y = C[k - 1] := ⟨_, rfl⟩
        rw [gD hk1, ← hy, decide_eq_true (show 0 < k by omega)] at hP
        refine idx (cxg _) (e := 64) rfl hT x.toNat (by omega) hxT (fun b9 o9 cs hcs hR hcell6 => ?_)
        rw [← htd] at hR
        obtain ⟨a4, n4, c4, rfl, hs4⟩ := hR
        have l4 := hs4.len
        refine ld1 (cxg _) (i := 0) rfl (hcell6 3 _ rfl) rfl ?_
        refine nw (by omega) (by omega) ?_
        refine idx (cxg _) (e := 3) rfl hc (k - 1) (by omega) hk1 (fun b9 o9 cs hcs hR hcell7 => ?_)
        rw [← hy] at hR
        subst hR
        refine ld1 (cxg _) (i := 0) rfl (hcell7 0 _ rfl) rfl ?_
        refine callV _ (fun w' hm => containsInts_spec y w' (hs4.mono (encF_mono _) (hm 0 _ rfl)) (by omega)) ?_
        refine ⟨(by repeat first | exact trivial | refine ⟨.inl rfl, ?_⟩ | refine ⟨.inr rfl, ?_⟩), ?_⟩
        exact ⟨(), trivial, Ent.mk (fun _ _ h => h) (by rw [hP]; rfl) rfl⟩
      · refine ⟨(by repeat first | exact trivial | refine ⟨.inl rfl, ?_⟩ | refine ⟨.inr rfl, ?_⟩), ?_⟩
        exact ⟨(), trivial, Ent.mk (fun _ _ h => h) (by rw [hP, decide_eq_false (show ¬ 0 < k by omega)]; rfl) rfl⟩
    rintro ⟨⟩ _ _
    dsimp only
    refine bsplit (fun h8 => ?_) (fun h8 => ?_)
    · rw [if_pos (anyHitR hkC h8)] at hp
      exact ⟨[], ⟨by rw [hp], rfl⟩, fun w' h => h.pick [0] rfl rfl⟩
    · refine idx (cxg _) (e := 64) rfl hT x.toNat (by omega) hxT (fun b9 o9 cs hcs hR hcell4 => ?_)
      rw [← htd] at hR
      obtain ⟨a3, n3, c3, rfl, hs3⟩ := hR
      refine ld1 (cxg _) (i := 0) rfl (hcell4 1 _ rfl) rfl ?_
      refine nw (by omega) (by omega) ?_
      refine nw (by omega) (by omega) ?_
      refine ⟨(k + 1, s + t.du), ⟨by dsimp only; omega, n1.symm, ⟨by dsimp only; omega, by dsimp only; omega⟩, fun j hj => ?_⟩, by dsimp only; omega, Ent.mk (fun _ _ h => h) rfl rfl⟩
      dsimp only at hj
      rcases Nat.lt_or_ge j k with h | h
      · exact hall j h
      · rw [show j = k by omega]; exact h8
  have hkn : C.take k = C := List.take_of_length_le (by omega)
  rw [hkn] at hsm
  rw [if_neg (by rw [anyNoR fun j hj => hall j (by omega)]; decide)] at hp
  refine bsplitd (fun h8 => ?_) (fun h8 => ?_)
  · rw [if_pos (.inl (by omega))] at hp
    exact ⟨[], ⟨by rw [hp, hsm], rfl⟩, fun w' h => h.pick [0] rfl rfl⟩
  refine bsplitd (fun h9 => ?_) (fun h9 => ?_)
  · rw [if_pos (.inr (by omega))] at hp
    exact ⟨[], ⟨by rw [hp, hsm], rfl⟩, fun w' h => h.pick [0] rfl rfl⟩
  rw [if_neg (by omega)] at hp
  refine bsplitd (fun h10 => ?_) (fun h10 => ?_)
  · rw [if_pos (by omega)] at hp
    exact ⟨[], ⟨by rw [hp], rfl⟩, fun w' h => h.pick [0] rfl rfl⟩
  rw [if_neg (by omega)] at hp
  have hC0 : C = [] := List.eq_nil_of_length_eq_zero (by omega)
  have hs0 : s = 0 := by rw [hsm, hC0]; rfl
  subst hs0
  clear hall hsm hsb hk hkn
  refine NeedL.mk (Nat × Int × Int × Int) (fun g => [(2, .bx 1 0), (3, .bx 2 0), (6, .v (.int .i64 g.2.1)), (9, .v (.int .i64 g.2.2.1)), (10, .v (.int .i64 g.2.2.2)), (67, .v (.slice at' nt ct)), (68, .v (.int .i64 nt)), (69, .v (.int .i64 g.1))]) (fun _ => [.hp (Hp.whole w), .box b2 [.slice a n c, .slice a' n' c'] 25, .box b3 [.slice ac nc cc, .slice at' nt ct, .slice as0 ns cs'] 30])
    (fun g => g.1 ≤ nt ∧ g.2.1 = sumD TT (T.take g.1) ∧ (0 ≤ g.2.1 ∧ g.2.1 ≤ 1048576 * g.1) ∧ mnP (headF TT) T g.1 g.2.2.1 ∧ mnP (restF TT) T g.1 g.2.2.2 ∧ ∀ j (hj : j < T.length), j < g.1 → (List.range SS.length).any (othP TT SS S T[j].toNat) = false) (fun g => nt - g.1) (0, 0, -1, -1) ⟨Nat.zero_le _, rfl, ⟨Int.le_refl _, by dsimp only; omega⟩, .inl ⟨rfl, rfl⟩, .inl ⟨rfl, rfl⟩, fun j _ hj => absurd hj (Nat.not_lt_zero j)⟩ (Ent.mk (fun _ _ h => h) rfl rfl) ?_
  rintro ⟨q, s, le, rs⟩ ⟨hq, hsm, hsb, hle, hrs, hall⟩
  dsimp only at *
  refine bsplitd (fun h11 => ?_) (fun h11 => ?_)
  · have hqT : q < T.length := by omega
    obtain ⟨x, hx⟩ : ∃ x, x = T[q] := ⟨_, rfl⟩
    have hxr := rT x (by rw [hx]; exact List.getElem_mem hqT)
    obtain ⟨i, rfl⟩ : ∃ i : Nat, x = i := ⟨x.toNat, by omega⟩
    have hiT : i < TT.length := by omega
    have hTq : T[q].toNat = i := by rw [← hx]; exact Int.toNat_natCast i
    refine idx (cxg _) (e := 3) rfl ht q rfl hqT (fun b9 o9 cs hcs hR hcell11 => ?_)
    rw [← hx] at hR
    subst hR
    refine ld1 (cxg _) (i := 0) rfl (hcell11 0 _ rfl) rfl ?_
    refine NeedL.mk Nat (fun k => [(2, .bx 1 0), (3, .bx 2 0), (6, .v (.int .i64 s)), (9, .v (.int .i64 le)), (10, .v (.int .i64 rs)), (12, .v (.int .i64 i)), (67, .v (.slice at' nt ct)), (68, .v (.int .i64 nt)), (69, .v (.int .i64 q)), (75, .v (.int .i64 n')), (76, .v (.int .i64 k))]) (fun _ => [.hp (Hp.whole w), .box b2 [.slice a n c, .slice a' n' c'] 25, .box b3 [.slice ac nc cc, .slice at' nt ct, .slice as0 ns cs'] 30])
      (fun k => k ≤ n' ∧ ∀ j, j < k → othP TT SS S i j = false) (fun k => n' - k) 0 ⟨Nat.zero_le _, fun j hj => by omega⟩ (Ent.mk (fun _ _ h => h) rfl rfl) ?_
    rintro k ⟨hk, hall2⟩
    have more2 : othP TT SS S i k = false → ∀ j, j < k + 1 → othP TT SS S i j = false := fun h j hj => by
      rcases Nat.lt_or_ge j k with h' | h'
      · exact hall2 j h'
      · rw [show j = k by omega]; exact h
    refine bsplitd (fun h12 => ?_) (fun h12 => ?_)
    · have hkS : k < SS.length := by omega
      obtain ⟨ca, hca⟩ : ∃ ca, ca = caA TT SS i k := ⟨_, rfl⟩
      have hoP : othP TT SS S i k = (ca && !decide ((k : Int) ∈ S)) := by unfold othP; rw [← hca]
      have kA : ∀ w' : World, Sl encT 4 (Hp.whole w') a n c TT → Sl encN 2 (Hp.whole w') a' n' c' SS → CallsE Tryz.prog 69 #[sv a n c a' n' c', .int .i64 i, .int .i64 k] w' (RetV w' (.bool ca)) := fun w' h1 h2 => by
        rw [hca]; exact able50_spec i k w' h1 h2 hs hiT hkS
      refine callV _ (fun w' hm => kA w' (hT.mono encT_mono (hm 0 _ rfl)) (hS.mono encN_mono (hm 0 _ rfl))) ?_
      refine bsplit (fun h13 => ?_) (fun h13 => ?_)
      · refine callV _ (fun w' hm => containsInts_spec (k : Int) w' (hst.mono (encF_mono _) (hm 0 _ rfl)) (by omega)) ?_
        refine bsplit (fun h14 => ?_) (fun h14 => ?_)
        · rw [if_pos (by unfold othA; exact List.any_eq_true.2 ⟨(i : Int), by rw [hx]; exact List.getElem_mem hqT, anyHitR (k := k) hkS (by rw [Int.toNat_natCast, hoP, h13, h14]; rfl)⟩)] at hp
          exact ⟨[], ⟨by rw [hp], rfl⟩, fun w' h => h.pick [0] rfl rfl⟩
        · refine nw (by omega) (by omega) ?_
          exact ⟨k + 1, ⟨by omega, more2 (by rw [hoP, h13, h14]; rfl)⟩, by omega, Ent.mk (fun _ _ h => h) rfl rfl⟩
      · refine nw (by omega) (by omega) ?_
        exact ⟨k + 1, ⟨by omega, more2 (by rw [hoP, h13]; rfl)⟩, by omega, Ent.mk (fun _ _ h => h) rfl rfl⟩
    · have more : ∀ j (hj : j < T.length), j < q + 1 → (List.range SS.length).any (othP TT SS S T[j].toNat) = false := fun j hj hjq => by
        rcases Nat.lt_or_ge j q with h | h
        · exact hall j hj h
        · obtain rfl : j = q := by omega
          rw [hTq]; exact anyNoR fun v hv => hall2 v (by omega)
      obtain ⟨u, hu⟩ : ∃ u, u = TT[i] := ⟨_, rfl⟩
      have hdu := hF.d hiT
      rw [du_get hiT, ← hu] at hdu
      have n1 : sumD TT (T.take (q + 1)) = s + u.du := by rw [List.take_succ_eq_append_getElem hqT, sumD_snoc, ← hsm, hTq, du_get hiT, ← hu]
      have hhr := hd_rng hF hiT
      have htr := tlv_rng hF hiT
      have hrz := (tail_max hF hO hiT).z
      have hre := rest_eq hO hiT
      rw [du_get hiT, ← hu] at hrz hre
      obtain ⟨hd, hhd⟩ : ∃ hd, hd = hdV TT i := ⟨_, rfl⟩
      obtain ⟨tl, htl⟩ : ∃ tl, tl = tlV TT i := ⟨_, rfl⟩
      rw [← hhd] at hhr
      rw [← htl] at htr hrz hre
      have kHd : ∀ w' : World, Sl encT 4 (Hp.whole w') a n c TT → CallsE Tryz.prog 98 #[sv a n c a' n' c', .int .i64 i] w' (RetV w' (.int .i64 hd)) := fun w' h => by rw [hhd]; exact head50_spec hF hO i w' hiT h
      have kTl : ∀ w' : World, Sl encT 4 (Hp.whole w') a n c TT → CallsE Tryz.prog 53 #[sv a n c a' n' c', .int .i64 i] w' (RetV w' (.int .i64 tl)) := fun w' h => by rw [htl]; exact tail50_spec hF hO i w' hiT h
      obtain ⟨sl1, sl2, sl3⟩ := mn_step (h := hd) hle hqT (by rw [hTq, hhd]; rfl) hhr.1 (by omega)
      obtain ⟨sr1, sr2, sr3⟩ := mn_step (h := tl - u.du) hrs hqT (by rw [hTq, hre]) (by omega) (by omega)
      clear hall hall2 more2
      refine idx (cxg _) (e := 64) rfl hT i rfl hiT (fun b9 o9 cs hcs hR hcell16 => ?_)
      rw [← hu] at hR
      obtain ⟨a3, n3, c3, rfl, hs3⟩ := hR
      refine ld1 (cxg _) (i := 0) rfl (hcell16 1 _ rfl) rfl ?_
      refine nw (by omega) (by omega) ?_
      refine callV _ (fun w' hm => kHd w' (hT.mono encT_mono (hm 0 _ rfl))) ?_
      refine bsplitd (fun h17 => ?_) (fun h17 => ?_)
      · have hl := sl1 h17
        refine NeedD.by_order (cxg _) (.take 0 <| .take 1 <| .take 3 <| .take 4 <| .take 5 <| .take 6 <| .take 7 <| .take 8 <| .run 2 <| .take 9 <| .take 10 <| .done) (by kernel_rfl) ?_
        refine idx (cxg _) (e := 64) rfl hT i rfl hiT (fun b9 o9 cs hcs hR hcell18 => ?_)
        rw [← hu] at hR
        obtain ⟨a5, n5, c5, rfl, hs5⟩ := hR
        refine ld1 (cxg _) (i := 0) rfl (hcell18 1 _ rfl) rfl ?_
        refine callV _ (fun w' hm => kTl w' (hT.mono encT_mono (hm 0 _ rfl))) ?_
        refine ⟨(by repeat first | exact trivial | refine ⟨.inl rfl, ?_⟩ | refine ⟨.inr rfl, ?_⟩), ?_⟩
        refine nw (by omega) (by omega) ?_
        refine bsplitd (fun h19 => ?_) (fun h19 => ?_)
        · refine nw (by omega) (by omega) ?_
          exact ⟨(q + 1, s + u.du, hd, tl - u.du), ⟨by dsimp only; omega, n1.symm, ⟨by dsimp only; omega, by dsimp only; omega⟩, hl, sr1 h19, more⟩, by dsimp only; omega, Ent.mk (fun _ _ h => h) rfl rfl⟩
        · refine bsplitd (fun h20 => ?_) (fun h20 => ?_)
          · refine nw (by omega) (by omega) ?_
            exact ⟨(q + 1, s + u.du, hd, tl - u.du), ⟨by dsimp only; omega, n1.symm, ⟨by dsimp only; omega, by dsimp only; omega⟩, hl, sr2 h19 h20, more⟩, by dsimp only; omega, Ent.mk (fun _ _ h => h) rfl rfl⟩
          · refine nw (by omega) (by omega) ?_
            exact ⟨(q + 1, s + u.du, hd, rs), ⟨by dsimp only; omega, n1.symm, ⟨by dsimp only; omega, by dsimp only; omega⟩, hl, sr3 h19 h20, more⟩, by dsimp only; omega, Ent.mk (fun _ _ h => h) rfl rfl⟩
      · refine bsplitd (fun h21 => ?_) (fun h21 => ?_)
        · have hl := sl2 h17 h21
          refine NeedD.by_order (cxg _) (.take 0 <| .take 1 <| .take 3 <| .take 4 <| .take 5 <| .take 6 <| .take 7 <| .take 8 <| .run 2 <| .take 9 <| .take 10 <| .done) (by kernel_rfl) ?_
          refine idx (cxg _) (e := 64) rfl hT i rfl hiT (fun b9 o9 cs hcs hR hcell18 => ?_)
          rw [← hu] at hR
          obtain ⟨a5, n5, c5, rfl, hs5⟩ := hR
          refine ld1 (cxg _) (i := 0) rfl (hcell18 1 _ rfl) rfl ?_
          refine callV _ (fun w' hm => kTl w' (hT.mono encT_mono (hm 0 _ rfl))) ?_
          refine ⟨(by repeat first | exact trivial | refine ⟨.inl rfl, ?_⟩ | refine ⟨.inr rfl, ?_⟩), ?_⟩
          refine nw (by omega) (by omega) ?_
          refine bsplitd (fun h19 => ?_) (fun h19 => ?_)
          · refine nw (by omega) (by omega) ?_
            exact ⟨(q + 1, s + u.du, hd, tl - u.du), ⟨by dsimp only; omega, n1.symm, ⟨by dsimp only; omega, by dsimp only; omega⟩, hl, sr1 h19, more⟩, by dsimp only; omega, Ent.mk (fun _ _ h => h) rfl rfl⟩
          · refine bsplitd (fun h20 => ?_) (fun h20 => ?_)
            · refine nw (by omega) (by omega) ?_
              exact ⟨(q + 1, s + u.du, hd, tl - u.du), ⟨by dsimp only; omega, n1.symm, ⟨by dsimp only; omega, by dsimp only; omega⟩, hl, sr2 h19 h20, more⟩, by dsimp only; omega, Ent.mk (fun _ _ h => h) rfl rfl⟩
            · refine nw (by omega) (by omega) ?_
              exact ⟨(q + 1, s + u.du, hd, rs), ⟨by dsimp only; omega, n1.symm, ⟨by dsimp only; omega, by dsimp only; omega⟩, hl, sr3 h19 h20, more⟩, by dsimp only; omega, Ent.mk (fun _ _ h => h) rfl rfl⟩
        · have hl := sl3 h17 h21
          refine NeedD.by_order (cxg _) (.take 0 <| .take 1 <| .take 3 <| .take 4 <| .take 5 <| .take 6 <| .take 7 <| .take 8 <| .run 2 <| .take 9 <| .take 10 <| .done) (by kernel_rfl) ?_
          refine idx (cxg _) (e := 64) rfl hT i rfl hiT (fun b9 o9 cs hcs hR hcell18 => ?_)
          rw [← hu] at hR
          obtain ⟨a5, n5, c5, rfl, hs5⟩ := hR
          refine ld1 (cxg _) (i := 0) rfl (hcell18 1 _ rfl) rfl ?_
          refine callV _ (fun w' hm => kTl w' (hT.mono encT_mono (hm 0 _ rfl))) ?_
          refine ⟨(by repeat first | exact trivial | refine ⟨.inl rfl, ?_⟩ | refine ⟨.inr rfl, ?_⟩), ?_⟩
          refine nw (by omega) (by omega) ?_
          refine bsplitd (fun h19 => ?_) (fun h19 => ?_)
          · refine nw (by omega) (by omega) ?_
            exact ⟨(q + 1, s + u.du, le, tl - u.du), ⟨by dsimp only; omega, n1.symm, ⟨by dsimp only; omega, by dsimp only; omega⟩, hl, sr1 h19, more⟩, by dsimp only; omega, Ent.mk (fun _ _ h => h) rfl rfl⟩
          · refine bsplitd (fun h20 => ?_) (fun h20 => ?_)
            · refine nw (by omega) (by omega) ?_
              exact ⟨(q + 1, s + u.du, le, tl - u.du), ⟨by dsimp only; omega, n1.symm, ⟨by dsimp only; omega, by dsimp only; omega⟩, hl, sr2 h19 h20, more⟩, by dsimp only; omega, Ent.mk (fun _ _ h => h) rfl rfl⟩
            · refine nw (by omega) (by omega) ?_
              exact ⟨(q + 1, s + u.du, le, rs), ⟨by dsimp only; omega, n1.symm, ⟨by dsimp only; omega, by dsimp only; omega⟩, hl, sr3 h19 h20, more⟩, by dsimp only; omega, Ent.mk (fun _ _ h => h) rfl rfl⟩
  · have hqe : T.take q = T := List.take_of_length_le (by omega)
    have hno : othA TT SS T S = false := by
      cases e : othA TT SS T S with
      | false => rfl
      | true =>
        obtain ⟨x, hx, h⟩ := List.any_eq_true.1 e
        obtain ⟨j, hj, rfl⟩ := List.mem_iff_getElem.1 hx
        rw [hall j hj (by omega)] at h; cases h
    rw [hno, if_neg (by decide)] at hp
    rcases hle with ⟨h0, _⟩ | ⟨_, hl1, hl2, hl3⟩
    · exact absurd h0 (by omega)
    rcases hrs with ⟨h0, _⟩ | ⟨_, hr1, hr2, hr3⟩
    · exact absurd h0 (by omega)
    rw [hqe] at hsm hl1 hr1
    have hfin : shF TT (headF TT) (restF TT) T S.length = le + (((s.toNat + ns - 1) / ns : Nat) : Int) + rs := by
      unfold shF
      rw [← hl1, ← hr1, ← hsm, ks]
    rw [hfin] at hp
    refine nw (by omega) (by omega) ?_
    refine nw (by omega) (by omega) ?_
    obtain ⟨d, hd⟩ : ∃ d, d = (s.toNat + ns - 1) / ns := ⟨_, rfl⟩
    have hd2 : d ≤ s.toNat + ns - 1 := by rw [hd]; exact Nat.div_le_self _ _
    rw [← hd] at hp
    refine qQuoM (s.toNat + ns - 1) ns d (by omega) rfl (by omega) (by omega) hd ?_
    refine nw (by omega) (by omega) ?_
    refine nw (by omega) (by omega) ?_
    exact ⟨[], ⟨by rw [hp], rfl⟩, fun w' h => h.pick [0] rfl rfl⟩
set_option maxRecDepth 10000 in
theorem verify50_spec {ac : Option Addr} {nc cc : Nat} {at' : Option Addr} {nt ct : Nat} {as0 : Option Addr} {ns cs' : Nat} {C T S : List Int} (b : Int) (w : World) (hT : Sl encT 4 (Hp.whole w) a n c TT) (hS : Sl encN 2 (Hp.whole w) a' n' c' SS) (hs : Sml TT SS) (hE : shopE TT SS = 0)
    (hc : Sl (encF fI) 1 (Hp.whole w) ac nc cc C) (ht : Sl (encF fI) 1 (Hp.whole w) at' nt ct T) (hst : Sl (encF fI) 1 (Hp.whole w) as0 ns cs' S) (lC : C.length < 1000) (lT : T.length < 1000) (lS : S.length < 1000) :
    CallsE Tryz.prog 17 #[sv a n c a' n' c', .int .i64 b, .agg #[.slice ac nc cc, .slice at' nt ct, .slice as0 ns cs']] w (RetV w (.int .i64 (vfE TT SS b C T S))) := by
  have kT := hT.len
  have kS := hS.len
  have kc := hc.len
  have kt := ht.len
  have ks := hst.len
  obtain ⟨v1, hv1⟩ : ∃ v1, v1 = byF C TT.length := ⟨_, rfl⟩
  obtain ⟨v2, hv2⟩ : ∃ v2, v2 = byF T TT.length := ⟨_, rfl⟩
  obtain ⟨v3, hv3⟩ : ∃ v3, v3 = byF S SS.length := ⟨_, rfl⟩
  obtain ⟨i1, hi1⟩ : ∃ i1, i1 = incF T := ⟨_, rfl⟩
  obtain ⟨i2, hi2⟩ : ∃ i2, i2 = incF S := ⟨_, rfl⟩
  obtain ⟨pn, hpn⟩ : ∃ pn, pn = (prvF TT SS C T S).1 := ⟨_, rfl⟩
  obtain ⟨pb, hpb⟩ : ∃ pb, pb = (prvF TT SS C T S).2 := ⟨_, rfl⟩
  have hc0 : vfE TT SS b C T S = if 0 < C.length ∧ 0 < T.length + S.length then 3 else if (v1 || v2 || v3) = true then 2 else if (!i1 || !i2) = true then 8 else if pvF TT SS b C T S = false then 27 else 0 := by
    unfold vfE; rw [hE, hv1, hv2, hv3, hi1, hi2, if_neg (by decide)]
  have kV : ∀ (w' : World), (Hp.whole w).In w' → CallsE Tryz.prog 56 #[.slice ac nc cc, .int .i64 n] w' (RetV w' (.bool v1)) ∧ CallsE Tryz.prog 56 #[.slice at' nt ct, .int .i64 n] w' (RetV w' (.bool v2)) ∧ CallsE Tryz.prog 56 #[.slice as0 ns cs', .int .i64 n'] w' (RetV w' (.bool v3)) ∧
      CallsE Tryz.prog 57 #[.slice at' nt ct] w' (RetV w' (.bool i1)) ∧ CallsE Tryz.prog 57 #[.slice as0 ns cs'] w' (RetV w' (.bool i2)) := fun w' hm => by
    rw [hv1, hv2, hv3, hi1, hi2, kT, kS]
    exact ⟨outside_spec _ w' (hc.mono (encF_mono _) hm) (by omega), outside_spec _ w' (ht.mono (encF_mono _) hm) (by omega), outside_spec _ w' (hst.mono (encF_mono _) hm) (by omega), strictly_spec w' (ht.mono (encF_mono _) hm) (by omega), strictly_spec w' (hst.mono (encF_mono _) hm) (by omega)⟩
  have kP : v1 = false → v2 = false → ∀ w' : World, (Hp.whole w).In w' → CallsE Tryz.prog 54 #[sv a n c a' n' c', .agg #[.slice ac nc cc, .slice at' nt ct, .slice as0 ns cs']] w' (RetV w' (.tuple #[.int .i64 pn, .bool pb])) := fun h1 h2 w' hm => by
    rw [hpn, hpb]
    exact proved_spec w' (hT.mono encT_mono hm) (hS.mono encN_mono hm) hs hE (hc.mono (encF_mono _) hm) (ht.mono (encF_mono _) hm) (hst.mono (encF_mono _) hm) (by_rng (hv1.symm.trans h1)) (by_rng (hv2.symm.trans h2)) lC lT lS
  have hpv : ¬ (0 < C.length ∧ 0 < T.length + S.length) → pvF TT SS b C T S = (pb && decide (b ≤ pn)) := fun h => by rw [pv_prv (fun g => h ⟨g.1, by omega⟩) b, hpn, hpb]
  clear hv1 hv2 hv3 hi1 hi2 hpn hpb
  refine enter (X := cx 71) (cxg _) (args := [.agg #[.slice a n c, .slice a' n' c'], .int .i64 b, .agg #[.slice ac nc cc, .slice at' nt ct, .slice as0 ns cs']]) [.tmp 6] Tryz.func17 rfl rfl rfl rfl rfl ?_
  intro b3
  intro b5
  refine bsplitd (fun h1 => ?_) (fun h1 => ?_)
  · refine nw (by omega) (by omega) ?_
    refine bsplitd (c := (nt : Int) + (ns : Int) > 0) (fun h3 => ?_) (fun h3 => ?_)
    · exact ⟨[], ⟨by rw [hc0, if_pos ⟨by omega, by omega⟩], rfl⟩, fun w' h => h.pick [0] rfl rfl⟩
    rw [if_neg (by omega), hpv (by omega)] at hc0
    refine callV _ (fun w' hm => (kV w' (hm 0 _ rfl)).1) ?_
    cases v1 with
    | true => exact ⟨[], ⟨by rw [hc0]; rfl, rfl⟩, fun w' h => h.pick [0] rfl rfl⟩
    | false =>
      refine callV _ (fun w' hm => (kV w' (hm 0 _ rfl)).2.1) ?_
      cases v2 with
      | true => exact ⟨[], ⟨by rw [hc0]; rfl, rfl⟩, fun w' h => h.pick [0] rfl rfl⟩
      | false =>
        refine callV _ (fun w' hm => (kV w' (hm 0 _ rfl)).2.2.1) ?_
        cases v3 with
        | true => exact ⟨[], ⟨by rw [hc0]; rfl, rfl⟩, fun w' h => h.pick [0] rfl rfl⟩
        | false =>
          refine callV _ (fun w' hm => (kV w' (hm 0 _ rfl)).2.2.2.1) ?_
          cases i1 with
          | false => exact ⟨[], ⟨by rw [hc0]; rfl, rfl⟩, fun w' h => h.pick [0] rfl rfl⟩
          | true =>
            refine callV _ (fun w' hm => (kV w' (hm 0 _ rfl)).2.2.2.2) ?_
            cases i2 with
            | false => exact ⟨[], ⟨by rw [hc0]; rfl, rfl⟩, fun w' h => h.pick [0] rfl rfl⟩
            | true =>
              refine callV _ (fun w' hm => kP rfl rfl w' (hm 0 _ rfl)) ?_
              cases pb with
              | false => exact ⟨[], ⟨by rw [hc0]; rfl, rfl⟩, fun w' h => h.pick [0] rfl rfl⟩
              | true =>
                refine bsplitd (fun h9 => ?_) (fun h9 => ?_)
                · exact ⟨[], ⟨by rw [hc0, decide_eq_false (by omega)]; rfl, rfl⟩, fun w' h => h.pick [0] rfl rfl⟩
                · exact ⟨[], ⟨by rw [hc0, decide_eq_true (by omega)]; rfl, rfl⟩, fun w' h => h.pick [0] rfl rfl⟩
  · rw [if_neg (by omega), hpv (by omega)] at hc0
    refine callV _ (fun w' hm => (kV w' (hm 0 _ rfl)).1) ?_
    cases v1 with
    | true => exact ⟨[], ⟨by rw [hc0]; rfl, rfl⟩, fun w' h => h.pick [0] rfl rfl⟩
    | false =>
      refine callV _ (fun w' hm => (kV w' (hm 0 _ rfl)).2.1) ?_
      cases v2 with
      | true => exact ⟨[], ⟨by rw [hc0]; rfl, rfl⟩, fun w' h => h.pick [0] rfl rfl⟩
      | false =>
        refine callV _ (fun w' hm => (kV w' (hm 0 _ rfl)).2.2.1) ?_
        cases v3 with
        | true => exact ⟨[], ⟨by rw [hc0]; rfl, rfl⟩, fun w' h => h.pick [0] rfl rfl⟩
        | false =>
          refine callV _ (fun w' hm => (kV w' (hm 0 _ rfl)).2.2.2.1) ?_
          cases i1 with
          | false => exact ⟨[], ⟨by rw [hc0]; rfl, rfl⟩, fun w' h => h.pick [0] rfl rfl⟩
          | true =>
            refine callV _ (fun w' hm => (kV w' (hm 0 _ rfl)).2.2.2.2) ?_
            cases i2 with
            | false => exact ⟨[], ⟨by rw [hc0]; rfl, rfl⟩, fun w' h => h.pick [0] rfl rfl⟩
            | true =>
              refine callV _ (fun w' hm => kP rfl rfl w' (hm 0 _ rfl)) ?_
              cases pb with
              | false => exact ⟨[], ⟨by rw [hc0]; rfl, rfl⟩, fun w' h => h.pick [0] rfl rfl⟩
              | true =>
                refine bsplitd (fun h9 => ?_) (fun h9 => ?_)
                · exact ⟨[], ⟨by rw [hc0, decide_eq_false (by omega)]; rfl, rfl⟩, fun w' h => h.pick [0] rfl rfl⟩
                · exact ⟨[], ⟨by rw [hc0, decide_eq_true (by omega)]; rfl, rfl⟩, fun w' h => h.pick [0] rfl rfl⟩
end
end Go.Proofs.YtnlkffccobdbjaaGreat
