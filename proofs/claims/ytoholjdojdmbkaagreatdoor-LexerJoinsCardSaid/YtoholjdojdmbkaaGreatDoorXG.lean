/- Parts of one proof, joined: Ig, Ih, Ii. No condition of its own. -/
import Derived.Test.YtoholjdojdmbkaaGreatDoorXF
import Derived.Test.YtoholjdojdmbkaaGreatDoorXB
namespace Go.Dw
open Go Go.RowKit
theorem widx {X : Ctx} {s : List Ch} (hX : X.Good) {T e : Nat} {te : TI} (hT : elsz X T = some (e, te)) (h1 : te.size = 1) {b off n c : Nat} {x : Int} (k j : Nat) (hx : x = k) (hk : k < n) (hj : off + k = j) {q : TV → Prop} (hq : q (.v (.pointer (some ⟨b, 0 + j, none⟩)))) :
    NeedQ X.P s (Instr.indexAt T (.slice (some ⟨b, off, none⟩) n c) (.int .i64 x)) q := by
  subst hx
  refine ⟨_, fun w _ => run_indexAt hX hT hk w, ?_⟩
  rw [h1, Nat.mul_one, hj, ← Nat.zero_add j]
  exact hq
end Go.Dw
namespace Go.Proofs.YtoholjdojdmbkaaGreatDoor
open Go Go.RowKit Go.Dw
theorem get_at {α : Type} {L a b : List α} {x : α} {k : Nat} (hL : L = a ++ x :: b) (hk : k = a.length) (h : k < L.length) : L[k] = x := by
  subst hL hk
  exact get_mid a x b h
theorem set_at {α : Type} {L a b : List α} {y : α} {k : Nat} (hL : L = a ++ y :: b) (hk : k = a.length) (x : α) : L.set k x = a ++ x :: b := by
  subst hL hk
  rw [set_mid]; simp
theorem valL_two (ul : List Nat) (u2 u1 : Nat) : valL (ul ++ [u2, u1]) = valL ul + Bs ^ ul.length * (u2 + Bs * u1) := by
  rw [valL_append]; simp [valL]
/-- the digit that the loop finds is the quotient or one more -/
theorem digit_num {ul vl : List Nat} {u2 u1 tt v2 v1 q r : Nat} (hl : ul.length = vl.length) (hlu : LimL (ul ++ [u2, u1])) (hlv : LimL (vl ++ [v2, v1])) (h0 : v1 ≠ 0)
    (hw : valL (ul ++ [u2, u1]) + Bs ^ (ul ++ [u2, u1]).length * tt < Bs * valL (vl ++ [v2, v1])) :
    tt ≤ v1 ∧ (QInv tt u1 u2 v1 v2 q r → ¬ (r < Bs ∧ (Bs ≤ q ∨ r * Bs + u2 < q * v2)) → q < Bs ∧ q * valL (vl ++ [v2, v1]) < valL (ul ++ [u2, u1]) + Bs ^ (ul ++ [u2, u1]).length * tt + valL (vl ++ [v2, v1]) ∧ valL (ul ++ [u2, u1]) + Bs ^ (ul ++ [u2, u1]).length * tt < (q + 1) * valL (vl ++ [v2, v1])) := by
  have h1 : u1 < Bs := hlu u1 (by simp)
  have h2 : u2 < Bs := hlu u2 (by simp)
  have h3 : v2 < Bs := hlv v2 (by simp)
  have hP : 0 < Bs ^ vl.length := Nat.pow_pos (by decide)
  have hul := valL_lt (m := ul) fun d hd => hlu d (by simp [hd])
  have hvl := valL_lt (m := vl) fun d hd => hlv d (by simp [hd])
  have hlen : (ul ++ [u2, u1]).length = vl.length + 2 := by simp [hl]
  rw [hlen] at hw ⊢
  have eU : valL (ul ++ [u2, u1]) + Bs ^ (vl.length + 2) * tt = ((tt * Bs + u1) * Bs + u2) * Bs ^ vl.length + valL ul := by
    rw [valL_two, hl, Nat.pow_add]
    generalize Bs ^ vl.length = P
    show valL ul + P * (u2 + Bs * u1) + P * (Bs * Bs) * tt = _
    rw [Nat.add_mul, Nat.add_mul, Nat.add_mul, Nat.mul_add]
    have e1 : P * (Bs * Bs) * tt = tt * Bs * Bs * P := by rw [Nat.mul_comm _ tt, Nat.mul_comm P, Nat.mul_assoc tt Bs Bs, Nat.mul_assoc tt]
    have e2 : P * (Bs * u1) = u1 * Bs * P := by rw [Nat.mul_comm P, Nat.mul_comm Bs u1]
    have e3 : P * u2 = u2 * P := Nat.mul_comm _ _
    omega
  have eV : valL (vl ++ [v2, v1]) = (v1 * Bs + v2) * Bs ^ vl.length + valL vl := by
    rw [valL_two]
    generalize Bs ^ vl.length = P
    rw [Nat.add_mul, Nat.mul_add]
    have e2 : P * (Bs * v1) = v1 * Bs * P := by rw [Nat.mul_comm P, Nat.mul_comm Bs v1]
    have e3 : P * v2 = v2 * P := Nat.mul_comm _ _
    omega
  rw [hl] at hul
  have hle : tt ≤ v1 := by
    refine Classical.byContradiction fun hn => ?_
    have hn : v1 + 1 ≤ tt := by omega
    rw [eU, eV] at hw
    have g1 : (v1 + 1) * (Bs * Bs * Bs ^ vl.length) ≤ tt * (Bs * Bs * Bs ^ vl.length) := Nat.mul_le_mul_right _ hn
    have g2 : (tt * Bs * Bs) * Bs ^ vl.length ≤ ((tt * Bs + u1) * Bs + u2) * Bs ^ vl.length := Nat.mul_le_mul_right _ (by rw [Nat.add_mul]; omega)
    have g3 : tt * (Bs * Bs * Bs ^ vl.length) = (tt * Bs * Bs) * Bs ^ vl.length := by rw [← Nat.mul_assoc, ← Nat.mul_assoc]
    have g4 : (v1 * Bs + v2 + 1) * Bs ^ vl.length ≤ ((v1 + 1) * Bs) * Bs ^ vl.length := Nat.mul_le_mul_right _ (by rw [Nat.add_mul v1 1 Bs]; omega)
    have g5 : Bs * (((v1 + 1) * Bs) * Bs ^ vl.length) = (v1 + 1) * (Bs * Bs * Bs ^ vl.length) := by
      rw [Nat.mul_assoc (v1 + 1) Bs, Nat.mul_left_comm Bs (v1 + 1), Nat.mul_assoc Bs Bs]
    have g6 : Bs * ((v1 * Bs + v2) * Bs ^ vl.length + valL vl) ≤ Bs * (((v1 + 1) * Bs) * Bs ^ vl.length) := by
      refine Nat.mul_le_mul_left _ ?_
      rw [Nat.add_mul _ 1 (Bs ^ vl.length), Nat.one_mul] at g4
      omega
    omega
  refine ⟨hle, fun hq hc => ?_⟩
  obtain ⟨k1, k2⟩ := hq.done h1 h3 hle hc
  refine ⟨k1, ?_⟩
  have hV1 : Bs * Bs ^ vl.length ≤ valL (vl ++ [v2, v1]) := by
    rw [eV]
    have : 1 * Bs * Bs ^ vl.length ≤ (v1 * Bs + v2) * Bs ^ vl.length := Nat.mul_le_mul_right _ (by
      have : 1 * Bs ≤ v1 * Bs := Nat.mul_le_mul_right _ (by omega)
      omega)
    rw [Nat.one_mul] at this
    omega
  exact knuth eU hul eV hvl k2 k1 hq.m hw hV1
set_option maxRecDepth 10000 in
theorem digit_spec {A B ul vl : List Nat} {u2 u1 tt v2 v1 : Nat} {b N C cu : Nat} {h : Hp} {av : Option Addr} {nv cv : Nat} (w : World) (hin : h.In w) (ho : OwnO fW 88 1 ⟨some ⟨b, 0, none⟩, N, C, h⟩ (A ++ (ul ++ [u2, u1] ++ tt :: B)))
    (hv : Sl (encF fW) 1 ((Hp.whole w).minus h) av nv cv (vl ++ [v2, v1])) (hl : ul.length = vl.length) (hlu : LimL (ul ++ [u2, u1])) (htt : tt < Bs) (hlv : LimL (vl ++ [v2, v1])) (h0 : v1 ≠ 0) (hN : (A ++ (ul ++ [u2, u1] ++ tt :: B)).length < 1000000)
    (hw : valL (ul ++ [u2, u1]) + Bs ^ (ul ++ [u2, u1]).length * tt < Bs * valL (vl ++ [v2, v1])) :
    CallsE Tryz.prog 104 #[.slice (some ⟨b, A.length, none⟩) (nv + 1) cu, .slice av nv cv] w (RetM w h fun v h' cs => cs = [] ∧ ∃ (q : Nat) (w' : List Nat), v = .int .u32 (q : Nat) ∧ q < Bs ∧ OwnO fW 88 1 ⟨some ⟨b, 0, none⟩, N, C, h'⟩ (A ++ (w' ++ B)) ∧
      w'.length = nv + 1 ∧ LimL w' ∧ valL w' + q * valL (vl ++ [v2, v1]) = valL (ul ++ [u2, u1]) + Bs ^ (ul ++ [u2, u1]).length * tt ∧ valL w' < valL (vl ++ [v2, v1])) := by
  have hnv : nv = vl.length + 2 := by have := hv.len; simpa using this
  have b1 : u1 < 4294967296 := hlu u1 (by simp)
  have b2 : u2 < 4294967296 := hlu u2 (by simp)
  have b3 : v2 < 4294967296 := hlv v2 (by simp)
  have b4 : v1 < 4294967296 := hlv v1 (by simp)
  have b5 : tt < 4294967296 := htt
  obtain ⟨hle, hnum⟩ := digit_num (q := 0) (r := 0) hl hlu hlv h0 hw
  have hnum : ∀ {q r : Nat}, _ := fun {q r} => (digit_num (q := q) (r := r) hl hlu hlv h0 hw).2
  have hlen : (A ++ (ul ++ [u2, u1] ++ tt :: B)).length = A.length + (vl.length + 2 + (B.length + 1)) := by simp [hl]; omega
  have hvlen : (vl ++ [v2, v1]).length = vl.length + 2 := by simp
  have lT : A ++ (ul ++ [u2, u1] ++ tt :: B) = (A ++ (ul ++ [u2, u1])) ++ tt :: B := by simp
  have l1 : A ++ (ul ++ [u2, u1] ++ tt :: B) = (A ++ (ul ++ [u2])) ++ u1 :: (tt :: B) := by simp
  have l2 : A ++ (ul ++ [u2, u1] ++ tt :: B) = (A ++ ul) ++ u2 :: (u1 :: tt :: B) := by simp
  have m1 : vl ++ [v2, v1] = (vl ++ [v2]) ++ v1 :: [] := by simp
  have m2 : vl ++ [v2, v1] = vl ++ v2 :: [v1] := by simp
  have hkT : A.length + nv < (A ++ (ul ++ [u2, u1] ++ tt :: B)).length := by omega
  have hk1 : A.length + (vl.length + 1) < (A ++ (ul ++ [u2, u1] ++ tt :: B)).length := by omega
  have hk2 : A.length + vl.length < (A ++ (ul ++ [u2, u1] ++ tt :: B)).length := by omega
  have gT := get_at lT (k := A.length + nv) (by simp; omega) hkT
  have g1 := get_at l1 (k := A.length + (vl.length + 1)) (by simp; omega) hk1
  have g2 := get_at l2 (k := A.length + vl.length) (by simp; omega) hk2
  have gv1 := get_at m1 (k := vl.length + 1) (by simp) (by omega)
  have gv2 := get_at m2 (k := vl.length) rfl (by omega)
  refine enterM (X := cx 173) (cxg _) (args := [.slice (some ⟨b, A.length, none⟩) (nv + 1) cu, .slice av nv cv]) hin [.tmp 4] Tryz.func104 rfl rfl rfl rfl rfl ?_
  refine NeedD.by_order (cxg _) (.take 0 <| .take 1 <| .take 2 <| .take 3 <| .take 4 <| .take 5 <| .take 6 <| .take 7 <| .take 8 <| .take 9 <| .take 10 <| .take 11 <| .take 12 <| .take 13 <| .done) (by kernel_rfl) ?_
  refine widx (cxg _) (e := 88) rfl rfl nv (A.length + nv) rfl (by omega) rfl ?_
  refine old (o := ⟨some ⟨b, 0, none⟩, N, C, h⟩) (g := fun x : Nat => .int .u32 x) (fun _ => rfl) (cxg _) (i := 1) rfl rfl ho hkT rfl ?_
  rw [gT]
  refine nw64Eq tt rfl (by omega) ?_
  refine qShl64 tt 32 rfl rfl (by decide) ?_
  have e1 : tt * 2 ^ 32 % 18446744073709551616 = 2 ^ 32 * tt := by
    rw [Nat.mul_comm]; exact Nat.mod_eq_of_lt (by omega)
  rw [e1]
  refine nw (by omega) (by omega) ?_
  refine widx (cxg _) (e := 88) rfl rfl (vl.length + 1) (A.length + (vl.length + 1)) (by omega) (by omega) rfl ?_
  refine old (o := ⟨some ⟨b, 0, none⟩, N, C, h⟩) (g := fun x : Nat => .int .u32 x) (fun _ => rfl) (cxg _) (i := 1) rfl rfl ho hk1 rfl ?_
  rw [g1]
  refine nw64Eq u1 rfl (by omega) ?_
  refine qOr64 (2 ^ 32 * tt) u1 rfl rfl (by omega) (by omega) ?_
  rw [or_low (k := 32) rfl b1]
  have e2 : 2 ^ 32 * tt + u1 = tt * Bs + u1 := by rw [Nat.mul_comm]; rfl
  rw [e2]
  have hH : tt * Bs + u1 < 18446744073709551616 := by unfold Bs; omega
  refine NeedD.by_order (cxg _) (.take 0 <| .take 1 <| .take 2 <| .take 3 <| .take 4 <| .take 5 <| .take 6 <| .take 7 <| .take 8 <| .take 9 <| .take 10 <| .take 11 <| .take 12 <| .take 13 <| .take 14 <| .take 15 <| .take 16 <| .take 17 <| .done) (by kernel_rfl) ?_
  refine nw (by omega) (by omega) ?_
  refine idx (cxg _) (e := 88) rfl hv (vl.length + 1) (by omega) (by omega) (fun b9 o9 cs hcs hR hcell3 => ?_)
  rw [gv1] at hR
  subst hR
  refine ld1 (cxg _) (i := 0) rfl (hcell3 0 _ rfl) rfl ?_
  refine nw64Eq v1 rfl (by omega) ?_
  refine qQuo64 (tt * Bs + u1) v1 rfl rfl (by omega) hH ?_
  refine nw (by omega) (by omega) ?_
  refine idx (cxg _) (e := 88) rfl hv (vl.length + 1) (by omega) (by omega) (fun b9 o9 cs hcs hR hcell4 => ?_)
  rw [gv1] at hR
  subst hR
  refine ld1 (cxg _) (i := 0) rfl (hcell4 0 _ rfl) rfl ?_
  refine nw64Eq v1 rfl (by omega) ?_
  refine qRem64 (tt * Bs + u1) v1 rfl rfl (by omega) hH ?_
  refine NeedL.mk (Nat × Nat × Int × Int) (fun g => [(0, .v (.slice (some ⟨b, A.length, none⟩) (nv + 1) cu)), (1, .v (.slice av nv cv)), (5, .v (.int .i64 nv)), (7, .v (.int .u64 g.2.2.1)), (8, .v (.int .u64 g.2.2.2))]) (fun _ => [.hp ((Hp.whole w).minus h), .hp h])
    (fun g => g.2.2.1 = g.1 ∧ g.2.2.2 = g.2.1 ∧ g.1 < 18446744073709551616 ∧ g.2.1 < 8589934592 ∧ QInv tt u1 u2 v1 v2 g.1 g.2.1) (fun g => g.1) ((tt * Bs + u1) / v1, (tt * Bs + u1) % v1, _, _) ⟨rfl, rfl, Nat.lt_of_le_of_lt (Nat.div_le_self _ _) hH, by have := Nat.mod_lt (tt * Bs + u1) (Nat.pos_of_ne_zero h0); dsimp only; omega, QInv.start (Nat.pos_of_ne_zero h0) b2⟩ (Ent.mk (fun _ _ h => h) rfl rfl) ?_
  rintro ⟨q, r, zq, zr⟩ ⟨hzq, hzr, hq1, hr1, hQ⟩
  dsimp only at *
  refine NeedD.cut Bool (fun g => [(0, .v (.slice (some ⟨b, A.length, none⟩) (nv + 1) cu)), (1, .v (.slice av nv cv)), (5, .v (.int .i64 nv)), (7, .v (.int .u64 zq)), (8, .v (.int .u64 zr)), (73, .v (.bool g))]) (fun _ => [.hp ((Hp.whole w).minus h), .hp h])
    (fun g => g = true ↔ (r < Bs ∧ (Bs ≤ q ∨ r * Bs + u2 < q * v2))) (NeedD.by_order (cxg _) (.take 0 <| .take 1 <| .take 2 <| .take 3 <| .take 4 <| .take 5 <| .take 6 <| .take 7 <| .take 8 <| .take 9 <| .take 10 <| .take 11 <| .take 12 <| .take 13 <| .take 14 <| .take 15 <| .take 16 <| .take 17 <| .take 18 <| .take 19 <| .take 20 <| .take 21 <| .take 22 <| .take 23 <| .take 24 <| .take 25 <| .done) (by kernel_rfl) ?_) ?_
  · refine bsplitd (fun h5 => ?_) (fun h5 => ?_)
    · refine bsplitd (fun h6 => ?_) (fun h6 => ?_)
      · exact ⟨true, ⟨fun _ => ⟨by unfold Bs; omega, .inl (by unfold Bs; omega)⟩, fun _ => rfl⟩, Ent.mk (fun _ _ h => h) rfl rfl⟩
      · have hqB : q < 4294967296 := by omega
        have hqv : q * v2 ≤ 4294967295 * 4294967295 := Nat.mul_le_mul (by omega) (by omega)
        refine nw (by omega) (by omega) ?_
        refine idx (cxg _) (e := 88) rfl hv vl.length (by omega) (by omega) (fun b9 o9 cs hcs hR hcell7 => ?_)
        rw [gv2] at hR
        subst hR
        refine ld1 (cxg _) (i := 0) rfl (hcell7 0 _ rfl) rfl ?_
        refine nw64Eq v2 rfl (by omega) ?_
        refine nw64Eq (q * v2) (by rw [hzq]; simp) (by omega) ?_
        refine qShl64 r 32 hzr rfl (by decide) ?_
        have e3 : r * 2 ^ 32 % 18446744073709551616 = 2 ^ 32 * r := by
          rw [Nat.mul_comm]; exact Nat.mod_eq_of_lt (by omega)
        rw [e3]
        refine nw (by omega) (by omega) ?_
        refine widx (cxg _) (e := 88) rfl rfl vl.length (A.length + vl.length) (by omega) (by omega) rfl ?_
        refine old (o := ⟨some ⟨b, 0, none⟩, N, C, h⟩) (g := fun x : Nat => .int .u32 x) (fun _ => rfl) (cxg _) (i := 1) rfl rfl ho hk2 rfl ?_
        rw [g2]
        refine nw64Eq u2 rfl (by omega) ?_
        refine qOr64 (2 ^ 32 * r) u2 rfl rfl (by omega) (by omega) ?_
        rw [or_low (k := 32) rfl b2]
        have e4 : 2 ^ 32 * r + u2 = r * Bs + u2 := by rw [Nat.mul_comm]; rfl
        rw [e4]
        refine ⟨decide (((q * v2 : Nat) : Int) > ((r * Bs + u2 : Nat) : Int)), ?_, Ent.mk (fun _ _ h => h) rfl rfl⟩
        rw [decide_eq_true_eq]
        constructor
        · intro g; exact ⟨by unfold Bs; omega, .inr (by omega)⟩
        · rintro ⟨_, g | g⟩
          · unfold Bs at g; omega
          · omega
    · exact ⟨false, ⟨nofun, by rintro ⟨g, _⟩; unfold Bs at g; omega⟩, Ent.mk (fun _ _ h => h) rfl rfl⟩
  rintro g hg hsat
  dsimp only
  refine bsplit (fun h9 => ?_) (fun h9 => ?_)
  · have h9 := hg.1 h9
    obtain ⟨hq0, hQ2⟩ := hQ.step h9.2
    have hrB : r < 4294967296 := h9.1
    refine nw64Eq (q - 1) (by omega) (by omega) ?_
    refine nw (by omega) (by omega) ?_
    refine idx (cxg _) (e := 88) rfl hv (vl.length + 1) (by omega) (by omega) (fun b9 o9 cs hcs hR hcell10 => ?_)
    rw [gv1] at hR
    subst hR
    refine ld1 (cxg _) (i := 0) rfl (hcell10 0 _ rfl) rfl ?_
    refine nw64Eq v1 rfl (by omega) ?_
    refine nw64Eq (r + v1) (by rw [hzr]; simp) (by omega) ?_
    exact ⟨(q - 1, r + v1, _, _), ⟨rfl, rfl, by dsimp only; omega, by dsimp only; omega, hQ2⟩, by dsimp only; omega, Ent.mk (fun _ _ h => h) rfl rfl⟩
  · have h9 : ¬ (r < Bs ∧ (Bs ≤ q ∨ r * Bs + u2 < q * v2)) := fun c => by rw [hg.2 c] at h9; cases h9
    obtain ⟨hqB, k1, k2⟩ := hnum hQ h9
    clear hnum hQ hq1 hg hsat h9 gT g1 g2 gv1 gv2 lT l1 l2 m1 m2 hkT hk1 hk2
    have hqB' : q < 4294967296 := hqB
    generalize hus : ul ++ [u2, u1] = us at *
    generalize hV : vl ++ [v2, v1] = V at *
    have husl : us.length = nv := by rw [← hus]; simp; omega
    have hVl : V.length = nv := by omega
    have hfit := digit_fit (t := tt) (by omega : us.length = V.length) hlu hlv hqB k1 k2
    -- multiplication and subtraction
    refine NeedL.mk (Nat × Hp) (fun g => [(0, .v (.slice (some ⟨b, A.length, none⟩) (nv + 1) cu)), (1, .v (.slice av nv cv)), (5, .v (.int .i64 nv)), (7, .v (.int .u64 zq)), (9, .v (.int .u64 ((msub q (us.take g.1) (V.take g.1) 0 0).2.1 : Nat))), (10, .v (.int .i64 ((msub q (us.take g.1) (V.take g.1) 0 0).2.2 : Nat))), (84, .v (.slice av nv cv)), (85, .v (.int .i64 nv)), (86, .v (.int .i64 g.1))]) (fun g => [.hp ((Hp.whole w).minus h), .hp g.2])
      (fun g => g.1 ≤ nv ∧ OwnO fW 88 1 ⟨some ⟨b, 0, none⟩, N, C, g.2⟩ (A ++ ((msub q (us.take g.1) (V.take g.1) 0 0).1 ++ (us.drop g.1 ++ tt :: B)))) (fun g => nv - g.1) (0, h) ⟨Nat.zero_le _, by simpa [msub] using ho⟩ (Ent.mk (fun _ _ h => h) rfl rfl) ?_
    rintro ⟨k, hh⟩ ⟨hk, hoh⟩
    dsimp only at *
    have htl : (us.take k).length = (V.take k).length := by rw [List.length_take, List.length_take]; omega
    have hSl := msub_len q (us.take k) (V.take k) 0 0 htl
    rw [List.length_take, show min k us.length = k by omega] at hSl
    have hSv := msub_val hqB (us.take k) (V.take k) 0 0 htl (fun d hd => hlu d (List.mem_of_mem_take hd)) (fun d hd => hlv d (List.mem_of_mem_take hd)) (by decide) (by decide)
    refine bsplitd (fun h11 => ?_) (fun h11 => ?_)
    · have hku : k < us.length := by omega
      have hkv : k < V.length := by omega
      have hdv : V[k] < 4294967296 := hlv V[k] (List.getElem_mem hkv)
      have hdu : us[k] < 4294967296 := hlu us[k] (List.getElem_mem hku)
      have hsn := msub_snoc q (us.take k) (V.take k) us[k] V[k] 0 0 htl
      rw [← take_snoc us k hku, ← take_snoc V k hkv] at hsn
      generalize hS : msub q (us.take k) (V.take k) 0 0 = S at *
      obtain ⟨D, c, bw⟩ := S
      dsimp only at *
      have hcB : c < 4294967296 := hSv.2.2.2.1
      have hbw : bw ≤ 1 := hSv.2.2.2.2
      have hqv : q * V[k] ≤ 4294967295 * 4294967295 := Nat.mul_le_mul (by omega) (by omega)
      refine idx (cxg _) (e := 88) rfl hv k rfl (by omega) (fun b9 o9 cs hcs hR hcell12 => ?_)
      subst hR
      refine ld1 (cxg _) (i := 0) rfl (hcell12 0 _ rfl) rfl ?_
      refine nw64Eq V[k] rfl (by omega) ?_
      refine nw64Eq (q * V[k]) (by rw [hzq]; simp) (by omega) ?_
      refine nw64Eq (c + q * V[k]) (by simp) (by omega) ?_
      have lk : A ++ (D ++ (us.drop k ++ tt :: B)) = (A ++ D) ++ us[k] :: (us.drop (k + 1) ++ tt :: B) := by
        rw [List.drop_eq_getElem_cons hku]; simp only [List.append_assoc, List.cons_append]
      have hkl : A.length + k < (A ++ (D ++ (us.drop k ++ tt :: B))).length := by rw [lk]; simp; omega
      have gk := get_at lk (k := A.length + k) (by simp; omega) hkl
      refine widx (cxg _) (e := 88) rfl rfl k (A.length + k) rfl (by omega) rfl ?_
      refine old (o := ⟨some ⟨b, 0, none⟩, N, C, hh⟩) (g := fun x : Nat => .int .u32 x) (fun _ => rfl) (cxg _) (i := 1) rfl rfl hoh hkl rfl ?_
      rw [gk]
      refine nw (by omega) (by omega) ?_
      refine nw (by omega) (by omega) ?_
      refine nwLow (c + q * V[k]) rfl ?_
      have hx := Nat.mod_lt (c + q * V[k]) (show 4294967296 > 0 by decide)
      generalize hX : (c + q * V[k]) % 4294967296 = x at *
      refine nw (by omega) (by omega) ?_
      refine nw (by omega) (by omega) ?_
      refine qShr64 (c + q * V[k]) 32 rfl rfl (by decide) ?_
      refine nwMod32 (y := (((us[k] + 2 * Bs - bw - x) % Bs : Nat) : Int)) (by unfold Bs; omega) ?_
      refine widx (cxg _) (e := 88) rfl rfl k (A.length + k) rfl (by omega) rfl ?_
      refine osto (o := ⟨some ⟨b, 0, none⟩, N, C, hh⟩) (g := fun x : Nat => .int .u32 x) (fun _ => rfl) (cxg _) (i := 1) rfl rfl hoh hkl rfl rfl ((us[k] + 2 * Bs - bw - x) % Bs) rfl rfl rfl fun o2 f1 f2 f3 ho2 => ?_
      obtain ⟨ja, jn, jc, h2⟩ := o2
      simp only at f1 f2 f3
      subst ja jn jc
      rw [set_at lk (by simp; omega)] at ho2
      have hX' : (c + q * V[k]) % Bs = x := hX
      rw [hX'] at hsn
      have el : (A ++ D) ++ ((us[k] + 2 * Bs - bw - x) % Bs) :: (us.drop (k + 1) ++ tt :: B) = A ++ ((D ++ [(us[k] + 2 * Bs - bw - x) % Bs]) ++ (us.drop (k + 1) ++ tt :: B)) := by simp
      rw [el] at ho2
      refine bsplitd (fun h15 => ?_) (fun h15 => ?_)
      · refine nw (by omega) (by omega) ?_
        rw [if_pos (by omega)] at hsn
        exact ⟨(k + 1, h2), ⟨by dsimp only; omega, by dsimp only; rw [hsn]; exact ho2⟩, by dsimp only; omega, Ent.mk (fun _ _ h => h) (by dsimp only; rw [hsn]; rfl) rfl⟩
      · refine nw (by omega) (by omega) ?_
        rw [if_neg (by omega)] at hsn
        exact ⟨(k + 1, h2), ⟨by dsimp only; omega, by dsimp only; rw [hsn]; exact ho2⟩, by dsimp only; omega, Ent.mk (fun _ _ h => h) (by dsimp only; rw [hsn]; rfl) rfl⟩
    · have hkn : k = nv := by omega
      subst hkn
      rw [List.take_of_length_le (by omega), List.take_of_length_le (by omega)] at hSl hSv hoh ⊢
      rw [List.drop_of_length_le (by omega), List.nil_append] at hoh
      generalize hS : msub q us V 0 0 = S at *
      obtain ⟨D, c, bw⟩ := S
      dsimp only at *
      have hcB : c < 4294967296 := hSv.2.2.2.1
      have hbw : bw ≤ 1 := hSv.2.2.2.2
      have lk : A ++ (D ++ tt :: B) = (A ++ D) ++ tt :: B := by simp
      have hkl : A.length + k < (A ++ (D ++ tt :: B)).length := by rw [lk]; simp; omega
      have gk := get_at lk (k := A.length + k) (by simp; omega) hkl
      refine widx (cxg _) (e := 88) rfl rfl k (A.length + k) rfl (by omega) rfl ?_
      refine old (o := ⟨some ⟨b, 0, none⟩, N, C, hh⟩) (g := fun x : Nat => .int .u32 x) (fun _ => rfl) (cxg _) (i := 1) rfl rfl hoh hkl rfl ?_
      rw [gk]
      refine nw (by omega) (by omega) ?_
      refine nw (by omega) (by omega) ?_
      refine nw (by omega) (by omega) ?_
      refine nw (by omega) (by omega) ?_
      refine nwMod32 (y := (((tt + 2 * Bs - bw - c) % Bs : Nat) : Int)) (by unfold Bs; omega) ?_
      refine widx (cxg _) (e := 88) rfl rfl k (A.length + k) rfl (by omega) rfl ?_
      refine osto (o := ⟨some ⟨b, 0, none⟩, N, C, hh⟩) (g := fun x : Nat => .int .u32 x) (fun _ => rfl) (cxg _) (i := 1) rfl rfl hoh hkl rfl rfl ((tt + 2 * Bs - bw - c) % Bs) rfl rfl rfl fun o2 f1 f2 f3 ho2 => ?_
      obtain ⟨ja, jn, jc, h2⟩ := o2
      simp only at f1 f2 f3
      subst ja jn jc
      rw [set_at lk (by simp; omega)] at ho2
      have hDl : LimL D := hSv.2.2.1
      refine bsplitd (fun h18 => ?_) (fun h18 => ?_)
      · refine nw32Eq q hzq (by omega) ?_
        have hle2 : c + bw ≤ tt := by omega
        have hf := hfit.1 hle2
        have et : (tt + 2 * Bs - bw - c) % Bs = tt - (c + bw) := by unfold Bs; omega
        rw [et] at ho2
        have ew : valL (D ++ [tt - (c + bw)]) = valL D + Bs ^ us.length * (tt - (c + bw)) := by rw [valL_snoc, hSl, husl]
        refine ⟨h2, [], ⟨rfl, q, D ++ [tt - (c + bw)], rfl, hqB, by rw [List.append_assoc] at ho2 ⊢; exact ho2, by simp; omega, fun d hd => ?_, by rw [ew]; exact hf, ?_⟩, fun w' h => h⟩
        · rcases List.mem_append.1 hd with g | g
          · exact hDl d g
          · rw [List.mem_singleton] at g; unfold Bs; omega
        · rw [ew]
          rw [Nat.add_mul, Nat.one_mul] at k2
          omega
      · obtain ⟨hq0, ht1, hm1, hm2⟩ := hfit.2 (by omega)
        have et : (tt + 2 * Bs - bw - c) % Bs = Bs - 1 := by unfold Bs; omega
        rw [et] at ho2
        have hDV : D.length = V.length := by omega
        refine NeedL.mk (Nat × Hp) (fun g => [(0, .v (.slice (some ⟨b, A.length, none⟩) (k + 1) cu)), (5, .v (.int .i64 k)), (7, .v (.int .u64 zq)), (9, .v (.int .u64 ((madd (D.take g.1) (V.take g.1) 0).2 : Nat))), (137, .v (.slice av k cv)), (138, .v (.int .i64 k)), (139, .v (.int .i64 g.1))]) (fun g => [.hp ((Hp.whole w).minus h), .hp g.2])
          (fun g => g.1 ≤ k ∧ OwnO fW 88 1 ⟨some ⟨b, 0, none⟩, N, C, g.2⟩ (A ++ ((madd (D.take g.1) (V.take g.1) 0).1 ++ (D.drop g.1 ++ (Bs - 1) :: B)))) (fun g => k - g.1) (0, h2) ⟨Nat.zero_le _, by rw [List.append_assoc] at ho2; exact ho2⟩ (Ent.mk (fun _ _ h => h) rfl rfl) ?_
        rintro ⟨m, hh3⟩ ⟨hm, hoh3⟩
        dsimp only at *
        have htl3 : (D.take m).length = (V.take m).length := by rw [List.length_take, List.length_take]; omega
        have hMl := madd_len (D.take m) (V.take m) 0 htl3
        rw [List.length_take, show min m D.length = m by omega] at hMl
        have hMv := madd_val (D.take m) (V.take m) 0 htl3 (fun d hd => hDl d (List.mem_of_mem_take hd)) (fun d hd => hlv d (List.mem_of_mem_take hd)) (by decide)
        refine bsplitd (fun h19 => ?_) (fun h19 => ?_)
        · have hku : m < D.length := by omega
          have hkv : m < V.length := by omega
          have hdv : V[m] < 4294967296 := hlv V[m] (List.getElem_mem hkv)
          have hdu : D[m] < 4294967296 := hDl D[m] (List.getElem_mem hku)
          have hsn := madd_snoc (D.take m) (V.take m) D[m] V[m] 0 htl3
          rw [← take_snoc D m hku, ← take_snoc V m hkv] at hsn
          generalize hM : madd (D.take m) (V.take m) 0 = M at *
          obtain ⟨E, c3⟩ := M
          dsimp only at *
          have hc3 : c3 ≤ 1 := hMv.2.2.2
          refine idx (cxg _) (e := 88) rfl hv m rfl (by omega) (fun b9 o9 cs hcs hR hcell20 => ?_)
          subst hR
          refine ld1 (cxg _) (i := 0) rfl (hcell20 0 _ rfl) rfl ?_
          have lk3 : A ++ (E ++ (D.drop m ++ (Bs - 1) :: B)) = (A ++ E) ++ D[m] :: (D.drop (m + 1) ++ (Bs - 1) :: B) := by
            rw [List.drop_eq_getElem_cons hku]; simp only [List.append_assoc, List.cons_append]
          have hkl3 : A.length + m < (A ++ (E ++ (D.drop m ++ (Bs - 1) :: B))).length := by rw [lk3]; simp; omega
          have gk3 := get_at lk3 (k := A.length + m) (by simp; omega) hkl3
          refine widx (cxg _) (e := 88) rfl rfl m (A.length + m) rfl (by omega) rfl ?_
          refine old (o := ⟨some ⟨b, 0, none⟩, N, C, hh3⟩) (g := fun x : Nat => .int .u32 x) (fun _ => rfl) (cxg _) (i := 1) rfl rfl hoh3 hkl3 rfl ?_
          rw [gk3]
          refine nw64Eq D[m] rfl (by omega) ?_
          refine nw64Eq V[m] rfl (by omega) ?_
          refine nw64Eq (D[m] + V[m]) (by simp) (by omega) ?_
          refine nw64Eq (c3 + D[m] + V[m]) (by simp; omega) (by omega) ?_
          refine nwLow (c3 + D[m] + V[m]) rfl ?_
          refine widx (cxg _) (e := 88) rfl rfl m (A.length + m) rfl (by omega) rfl ?_
          refine osto (o := ⟨some ⟨b, 0, none⟩, N, C, hh3⟩) (g := fun x : Nat => .int .u32 x) (fun _ => rfl) (cxg _) (i := 1) rfl rfl hoh3 hkl3 rfl rfl ((c3 + D[m] + V[m]) % Bs) rfl rfl rfl fun o2 f1 f2 f3 ho2 => ?_
          obtain ⟨ja, jn, jc, h3⟩ := o2
          simp only at f1 f2 f3
          subst ja jn jc
          rw [set_at lk3 (by simp; omega)] at ho2
          refine qShr64 (c3 + D[m] + V[m]) 32 rfl rfl (by decide) ?_
          refine nw (by omega) (by omega) ?_
          have el : (A ++ E) ++ ((c3 + D[m] + V[m]) % Bs) :: (D.drop (m + 1) ++ (Bs - 1) :: B) = A ++ ((E ++ [(c3 + D[m] + V[m]) % Bs]) ++ (D.drop (m + 1) ++ (Bs - 1) :: B)) := by simp
          rw [el] at ho2
          exact ⟨(m + 1, h3), ⟨by dsimp only; omega, by dsimp only; rw [hsn]; exact ho2⟩, by dsimp only; omega, Ent.mk (fun _ _ h => h) (by dsimp only; rw [hsn]; rfl) rfl⟩
        · have hmn : m = k := by omega
          subst hmn
          rw [List.take_of_length_le (by omega), List.take_of_length_le (by omega)] at hMl hMv hoh3 ⊢
          rw [List.drop_of_length_le (by omega), List.nil_append] at hoh3
          generalize hM : madd D V 0 = M at *
          obtain ⟨E, c3⟩ := M
          dsimp only at *
          subst hm1
          have lk3 : A ++ (E ++ (Bs - 1) :: B) = (A ++ E) ++ (Bs - 1) :: B := by simp
          have hkl3 : A.length + m < (A ++ (E ++ (Bs - 1) :: B)).length := by rw [lk3]; simp; omega
          have gk3 := get_at lk3 (k := A.length + m) (by simp; omega) hkl3
          refine widx (cxg _) (e := 88) rfl rfl m (A.length + m) rfl (by omega) rfl ?_
          refine old (o := ⟨some ⟨b, 0, none⟩, N, C, hh3⟩) (g := fun x : Nat => .int .u32 x) (fun _ => rfl) (cxg _) (i := 1) rfl rfl hoh3 hkl3 rfl ?_
          rw [gk3]
          refine nw32Eq 1 rfl (by decide) ?_
          refine nwMod32 (y := ((0 : Nat) : Int)) (by decide) ?_
          refine widx (cxg _) (e := 88) rfl rfl m (A.length + m) rfl (by omega) rfl ?_
          refine osto (o := ⟨some ⟨b, 0, none⟩, N, C, hh3⟩) (g := fun x : Nat => .int .u32 x) (fun _ => rfl) (cxg _) (i := 1) rfl rfl hoh3 hkl3 rfl rfl 0 rfl rfl rfl fun o2 f1 f2 f3 ho2 => ?_
          obtain ⟨ja, jn, jc, h3⟩ := o2
          simp only at f1 f2 f3
          subst ja jn jc
          rw [set_at lk3 (by simp; omega)] at ho2
          refine nw64Eq (q - 1) (by omega) (by omega) ?_
          refine nw32Eq (q - 1) rfl (by omega) ?_
          have ew : valL (E ++ [0]) = valL E := by rw [valL_snoc]; simp
          refine ⟨h3, [], ⟨rfl, q - 1, E ++ [0], rfl, by omega, by rw [List.append_assoc] at ho2 ⊢; exact ho2, by simp; omega, fun d hd => ?_, by rw [ew]; exact hm2, ?_⟩, fun w' h => h⟩
          · rcases List.mem_append.1 hd with g | g
            · exact hMv.2.2.1 d g
            · rw [List.mem_singleton] at g; rw [g]; decide
          · rw [ew]
            have hD1 := valL_lt hDl
            rw [hSl] at hD1
            have hS1 := hSv.1
            rw [← ht1, Nat.mul_add, Nat.mul_one, husl] at hS1
            rw [husl] at hm2
            clear hSv hMv ho2 hoh hoh3 lk lk3 gk gk3 hkl hkl3
            obtain ⟨p, rfl⟩ : ∃ p, q = p + 1 := ⟨q - 1, by omega⟩
            rw [Nat.add_mul, Nat.one_mul] at hS1
            rw [Nat.add_sub_cancel] at hm2
            omega
end Go.Proofs.YtoholjdojdmbkaaGreatDoor
namespace Go.Dw
open Go Go.RowKit
theorem Hp.le_left (h k : Hp) : h.le (h.join k) := fun x o e => by unfold Hp.join; rw [e]
theorem Sat.leR {s : List Ch} (h : Sat s) (i j : Nat) {c d : Ch} (hi : sget s i = some c) (hj : sget s j = some d) : d.h.le (c.h.join d.h) :=
  let ⟨_, _, hok⟩ := h; Hp.le_join_in (hok.mem i c hi) (hok.mem j d hj)
theorem callMO {P : Program} {s : List Ch} {f : Nat} {args : List Value} {q : TV → List Ch → Prop} {i : Nat} {h : Hp} (hi : sget s i = some (.hp h)) {R : Value → Hp → List Ch → Prop}
    (hc : ∀ w0 w, Ok w0 s w → CallsE P f args.toArray w (RetM w h R)) (k : ∀ v h' cs, R v h' cs → q (.v v) (sset s i (.hp h') ++ cs)) : NeedF P s f args q := by
  refine ⟨fun w0 w hok => ⟨(hc w0 w hok).1, (hc w0 w hok).2.mono fun e w' he => ?_⟩⟩
  obtain ⟨v, h', cs, rfl, h1, h2⟩ := he
  exact ⟨v, _, rfl, hok.callM hi h1, (Keep.set hi (fun b cs T e => by cases e)).trans (Keep.app _ cs), k v h' cs h2⟩
/-- s[l:m] of an owned slice of one-cell elements -/
theorem slW {X : Ctx} {s : List Ch} (hX : X.Good) {T e : Nat} {te : TI} (hT : elsz X T = some (e, te)) (h1 : te.size = 1) {b n c : Nat} (l m : Nat) {k1 k2 : IntKind} {x y : Int} (hx : x = l) (hy : y = m) (hlm : l < m) (hmc : m ≤ c) {q : TV → Prop}
    (hq : q (.v (.slice (some ⟨b, l, none⟩) (m - l) (c - l)))) : NeedQ X.P s (Instr.sliceAt T (.slice (some ⟨b, 0, none⟩) n c) (some (.int k1 x)) (some (.int k2 y)) none) q := by
  refine slq hX hT l m (.inr ⟨_, _, rfl, hx⟩) (.inr ⟨_, _, rfl, hy⟩) (by omega) hmc ?_
  rw [if_neg (by omega), h1]
  have e : (some (⟨b, 0, none⟩ : Addr)).map (·.add (l * 1)) = some ⟨b, l, none⟩ := by simp [Addr.add_mk]
  rw [e]; exact hq
theorem OwnO.addr {α : Type} {f : α → List Value} {T sz : Nat} {o : Os} {L : List α} (h : OwnO f T sz o L) (h0 : 0 < L.length) : ∃ b, o.a = some ⟨b, 0, none⟩ := by
  rcases h.2.2 with ⟨g, _⟩ | ⟨b, arr, g, _⟩
  · have := h.len; omega
  · exact ⟨b, g⟩
end Go.Dw
namespace Go.Proofs.YtoholjdojdmbkaaGreatDoor
open Go Go.RowKit Go.Dw
theorem Can.le_len {a b : List Nat} {x y : Nat} (ha : Can a x) (hb : Can b y) (h : x ≤ y) : a.length ≤ b.length := by
  refine Classical.byContradiction fun g => ?_
  have := hb.shorter ha (by omega)
  omega
/-- a magnitude in a chunk, not too long -/
def Mag (h : Hp) (v : Value) (m : Nat) : Prop := ∃ a n c L, v = .slice a n c ∧ Sl (encF fW) 1 h a n c L ∧ Can L m ∧ L.length ≤ 800000
theorem Mag.mono {h k : Hp} {v : Value} {m : Nat} (hl : h.le k) : Mag h v m → Mag k v m
  | ⟨a, n, c, L, h1, h2, h3, h4⟩ => ⟨a, n, c, L, h1, h2.mono (encF_mono _) hl, h3, h4⟩
/-- the last two digits apart -/
theorem last_two {L : List Nat} (h : 2 ≤ L.length) : ∃ l v2 v1, L = l ++ [v2, v1] ∧ l.length + 2 = L.length ∧ L.getD (L.length - 1) 0 = v1 := by
  obtain ⟨a, p, e, hl, hp⟩ := snoc_of (m := L) (by omega)
  obtain ⟨a2, p2, e2, hl2, _⟩ := snoc_of (m := a) (by omega)
  exact ⟨a2, p2, p, by rw [e, e2]; simp, by omega, hp⟩
theorem start_lt {x y p la lb : Nat} (hx : x < Bs ^ la) (hy : Bs ^ (lb - 1) ≤ y) (h1 : 0 < lb) (h2 : lb ≤ la) (hp : 0 < p) {A D : Nat} (e : x * p = A + Bs ^ (la - lb + 1) * D) : D < y * p := by
  refine Classical.byContradiction fun hn => ?_
  have hn : y * p ≤ D := by omega
  have g1 : Bs ^ (lb - 1) * p ≤ y * p := Nat.mul_le_mul_right _ hy
  have g2 : Bs ^ (la - lb + 1) * (Bs ^ (lb - 1) * p) ≤ Bs ^ (la - lb + 1) * D := Nat.mul_le_mul_left _ (by omega)
  rw [← Nat.mul_assoc, ← Nat.pow_add, show la - lb + 1 + (lb - 1) = la by omega] at g2
  have g3 : x * p < Bs ^ la * p := Nat.mul_lt_mul_of_pos_right hx hp
  omega
/-- the digits beyond the window are zeros -/
theorem window_val {u : List Nat} {k nv V : Nat} (hk : k + nv < u.length) (hr : valL (u.drop (k + 1)) < V) (hV : V ≤ Bs ^ nv) : valL (u.drop (k + nv + 1)) = 0 ∧ valL (u.drop k) = valL ((u.drop k).take nv) + Bs ^ nv * u[k + nv] := by
  have e1 := valL_cut (u.drop (k + 1)) nv
  rw [List.drop_drop, show k + 1 + nv = k + nv + 1 by omega, show ((u.drop (k + 1)).take nv).length = nv by rw [List.length_take, List.length_drop]; omega] at e1
  have z : valL (u.drop (k + nv + 1)) = 0 := by
    refine Classical.byContradiction fun hn => ?_
    have : Bs ^ nv * 1 ≤ Bs ^ nv * valL (u.drop (k + nv + 1)) := Nat.mul_le_mul_left _ (by omega)
    omega
  refine ⟨z, ?_⟩
  have e2 := valL_cut (u.drop k) nv
  rw [List.drop_drop, show ((u.drop k).take nv).length = nv by rw [List.length_take, List.length_drop]; omega, List.drop_eq_getElem_cons (show k + nv < u.length from hk)] at e2
  rw [e2]
  show _ + Bs ^ nv * (u[k + nv] + Bs * valL (u.drop (k + nv + 1))) = _
  rw [z]; simp
theorem window_cut {u : List Nat} {k nv : Nat} (hk : k + nv < u.length) : u = u.take k ++ ((u.drop k).take nv ++ u[k + nv] :: u.drop (k + nv + 1)) := by
  rw [← List.drop_eq_getElem_cons hk]
  have : u.drop (k + nv) = (u.drop k).drop nv := by rw [List.drop_drop]
  rw [this, List.take_append_drop, List.take_append_drop]
theorem div_start {La Lb : List Nat} {x y p m : Nat} (ca : Can La x) (cb : Can Lb y) (hb0 : 0 < Lb.length) (hll : Lb.length ≤ La.length) (hp0 : 0 < p) (hpB : p < Bs) (hm : m = La.length - Lb.length + 1) {z : Int} (hz : z + 1 = m) {Lq : List Nat} (hq : Lq.length ≤ m) :
    DInv (x * p) (y * p) Lb.length (raiL p La) (z + 1).toNat (valL (Lq.drop (z + 1).toNat)) := by
  have hra := raiL_val hpB ca.l
  rw [ca.v] at hra
  rw [hz, show ((m : Nat) : Int).toNat = m from rfl, List.drop_of_length_le hq]
  have hcut := valL_cut (raiL p La) m
  have hl : ((raiL p La).take m).length = m := by
    have := hra.2.2
    rw [List.length_take]; omega
  rw [hra.1, hl] at hcut
  refine ⟨hra.2.1, ?_, ?_⟩
  · rw [hra.1]; show x * p + y * p * (Bs ^ m * 0) = x * p
    rw [Nat.mul_zero, Nat.mul_zero, Nat.add_zero]
  · subst hm
    exact start_lt ca.lt (cb.ge hb0) hb0 hll hp0 hcut
theorem drop_setE {α : Type} {L : List α} {m : Nat} (h : m < L.length) (x : α) : (L.set m x).drop m = x :: L.drop (m + 1) := by
  rw [List.set_eq_take_append_cons_drop, if_pos h, List.drop_left' (by rw [List.length_take]; omega)]
theorem divide_spec {va vb : Value} {x y : Nat} (w : World) (ha : Mag (Hp.whole w) va x) (hb : Mag (Hp.whole w) vb y) (hy : 0 < y) :
    CallsE Tryz.prog 58 #[va, vb] w (Ret w fun v cs => ∃ g vq vr, cs = [.hp g] ∧ v = .tuple #[vq, vr] ∧ Mag g vq (x / y) ∧ (vr = va ∧ x < y ∨ Mag g vr (x % y))) := by
  obtain ⟨a, n, c, La, rfl, sa, ca, la⟩ := ha
  obtain ⟨a2, n2, c2, Lb, rfl, sb, cb, lb⟩ := hb
  have hn := sa.len
  have hn2 := sb.len
  have hb0 : 0 < Lb.length := Nat.pos_of_ne_zero fun e => by
    have := cb.zero.2 (List.eq_nil_of_length_eq_zero e); omega
  refine enter (X := cx 79) (cxg _) (args := [.slice a n c, .slice a2 n2 c2]) [.tmp 4, .tmp 5] Tryz.func58 rfl rfl rfl rfl rfl ?_
  refine callV _ (fun w' hm => iorder_spec w' (sa.mono (encF_mono _) (hm 0 _ rfl)) (sb.mono (encF_mono _) (hm 0 _ rfl)) ca cb (by omega)) ?_
  refine bsplitd (fun h1 => ?_) (fun h1 => ?_)
  · have hlt : x < y := by
      unfold cmpN at h1
      split at h1
      · assumption
      · split at h1 <;> omega
    exact ⟨[.hp Hp.emp], ⟨_, _, _, rfl, rfl, ⟨_, _, _, [], rfl, Sl.nil _ _ _ _ _, by rw [Nat.div_eq_of_lt hlt]; exact Can.nil, by simp⟩, .inl ⟨rfl, hlt⟩⟩, fun w' h => h.emp⟩
  · have hge : y ≤ x := by
      unfold cmpN at h1
      split at h1
      · omega
      · omega
    have hll := cb.le_len ca hge
    refine bsplitd (fun h2 => ?_) (fun h2 => ?_)
    · obtain ⟨d, hd⟩ : ∃ d, Lb = [d] := List.length_eq_one_iff.1 (by omega)
      subst hd
      have hdB : d < Bs := cb.l d (by simp)
      have hdy : d = y := by have := cb.v; simpa [valL] using this
      subst hdy
      refine idx (cxg _) (e := 88) rfl sb 0 rfl (by simp) (fun b9 o9 cs hcs hR hcell3 => ?_)
      subst hR
      refine ld1 (cxg _) (i := 0) rfl (hcell3 0 _ rfl) rfl ?_
      refine call (fun w' hm => short_spec w' d (sa.mono (encF_mono _) (hm 0 _ rfl)) ca.l (by omega) hy hdB) ?_
      rintro _ _ ⟨g, aq, nq, cq, Lq, rfl, rfl, sq, cq'⟩
      rw [ca.v] at cq' ⊢
      intro b30
      have hrB : x % d < 4294967296 := Nat.lt_of_lt_of_le (Nat.mod_lt _ hy) (Nat.le_of_lt hdB)
      refine callS (fun w' hm => trim_spec (L := [x % d]) w' (Sl.box (f := fW) (fun _ => rfl) (by decide) (hm 2 _ rfl) [x % d] rfl rfl (by simp)) (by simp)) ?_
      rintro _ _ ⟨rfl, rfl⟩ hsat
      have hlim : LimL [x % d] := fun e he => by rw [List.mem_singleton] at he; rw [he]; exact hrB
      have hb3 := OwnO.sl (f := fW) (sz := 1) (fun _ => rfl) (by decide) (OwnO.ofBox (sz := 1) (f := fW) (b := b30) (T := 88) (fun _ => rfl) [x % d] rfl rfl (by simp))
      have hcan := can_trim hlim
      rw [show valL [x % d] = x % d by simp [valL]] at hcan
      exact ⟨[.hp (g.join (Ch.box b30 [.int .u32 ((x % d : Nat) : Int)] 88).h)], ⟨_, _, _, rfl, rfl, ⟨_, _, _, _, rfl, sq.mono (encF_mono _) (Hp.le_left _ _), cq', by have := cq'.le_len ca (Nat.div_le_self _ _); omega⟩,
        .inr ⟨_, _, _, _, rfl, (slTrim hb3).mono (encF_mono _) (hsat.leR 1 2 rfl rfl), hcan, by rw [trL_len]; have := trN_le [x % d]; simp at this; omega⟩⟩, fun w' h => Ok.join (h.pick [0, 1, 2] rfl rfl)⟩
    · have hl2 : 2 ≤ Lb.length := by omega
      obtain ⟨tl, tv2, tv1, etl, htl, htop⟩ := last_two hl2
      have htop0 : tv1 ≠ 0 := by
        rw [← htop]; exact cb.t _ hb0 (by omega)
      have htopB : tv1 < Bs := cb.l tv1 (by rw [etl]; simp)
      have hgt : Lb[Lb.length - 1]'(by omega) = tv1 := get_at (a := tl ++ [tv2]) (b := []) (by rw [etl]; simp) (by simp; omega) (by omega)
      refine nw (by omega) (by omega) ?_
      refine idx (cxg _) (e := 88) rfl sb (Lb.length - 1) (by omega) (by omega) (fun b9 o9 cs hcs hR hcell4 => ?_)
      rw [hgt] at hR
      subst hR
      refine ld1 (cxg _) (i := 0) rfl (hcell4 0 _ rfl) rfl ?_
      refine call (fun w' hm => lead32_spec tv1 htopB (Nat.pos_of_ne_zero htop0) w') ?_
      rintro _ _ ⟨rfl, k, rfl, hk1, hk⟩
      obtain ⟨hps, hpB⟩ := pow_parts hk
      have hp0 := Nat.two_pow_pos k
      generalize hp : 2 ^ k = p at hk1 hps hpB hp0
      have hra := raiL_val hpB ca.l
      have hrb := raiL_val hpB cb.l
      rw [ca.v] at hra
      rw [cb.v] at hrb
      refine call (fun w' hm => raised_spec w' k (sa.mono (encF_mono _) (hm 0 _ rfl)) ca.l (by omega) hk) ?_
      rintro _ _ ⟨o1, rfl, rfl, ho1⟩
      refine call (fun w' hm => raised_spec w' k (sb.mono (encF_mono _) (hm 0 _ rfl)) cb.l (by omega) hk) ?_
      rintro _ _ ⟨o2, rfl, rfl, ho2⟩
      rw [hp] at ho1 ho2
      have s2 := OwnO.sl (f := fW) (sz := 1) (fun _ => rfl) (by decide) ho2
      have cV := can_trim hrb.2.1
      rw [hrb.1] at cV
      -- the divisor keeps its length
      have hyp : y * p < Bs ^ Lb.length := by
        have e : y = valL tl + Bs ^ tl.length * (tv2 + Bs * tv1) := by rw [← cb.v, etl, valL_two]
        have h1 := valL_lt (m := tl) fun d hd => cb.l d (by rw [etl]; simp [hd])
        have h2 : tv2 < Bs := cb.l tv2 (by rw [etl]; simp)
        have e2 : Bs ^ Lb.length = Bs ^ tl.length * (Bs * Bs) := by rw [← htl, Nat.pow_add]; rfl
        have h3 : y < Bs ^ tl.length * (Bs * (tv1 + 1)) := by
          have g1 : Bs ^ tl.length * (tv2 + Bs * tv1 + 1) ≤ Bs ^ tl.length * (Bs * (tv1 + 1)) := Nat.mul_le_mul_left _ (by rw [Nat.mul_add]; omega)
          rw [Nat.mul_add _ _ 1, Nat.mul_one] at g1
          omega
        have h4 : (tv1 + 1) * p ≤ Bs := by
          have g2 := hk1
          rw [Nat.add_mul, Nat.one_mul]
          have g3 : tv1 * p < p * 2 ^ (32 - k) := by rw [hps]; exact g2
          rw [Nat.mul_comm tv1 p] at g3
          have g4 := Nat.lt_of_mul_lt_mul_left g3
          have g5 : p * (tv1 + 1) ≤ p * 2 ^ (32 - k) := Nat.mul_le_mul_left _ g4
          rw [hps, Nat.mul_add, Nat.mul_one, Nat.mul_comm p tv1] at g5
          exact g5
        have h5 : y * p < Bs ^ tl.length * (Bs * (tv1 + 1)) * p := Nat.mul_lt_mul_of_pos_right h3 hp0
        have h6 : Bs ^ tl.length * (Bs * (tv1 + 1)) * p = Bs ^ tl.length * (Bs * ((tv1 + 1) * p)) := by rw [Nat.mul_assoc, Nat.mul_assoc]
        have h7 : Bs ^ tl.length * (Bs * ((tv1 + 1) * p)) ≤ Bs ^ tl.length * (Bs * Bs) := Nat.mul_le_mul_left _ (Nat.mul_le_mul_left _ h4)
        omega
      have hVl : (trL (raiL p Lb)).length = Lb.length := by
        rcases Nat.lt_trichotomy (trL (raiL p Lb)).length Lb.length with g | g | g
        · have := cV.lt
          have h2 := cb.ge hb0
          have h3 : Bs ^ (trL (raiL p Lb)).length ≤ Bs ^ (Lb.length - 1) := Nat.pow_le_pow_right (by decide) (by omega)
          have h4 : y * 1 ≤ y * p := Nat.mul_le_mul_left _ hp0
          omega
        · exact g
        · have h2 := cV.ge (by omega)
          have h3 : Bs ^ Lb.length ≤ Bs ^ ((trL (raiL p Lb)).length - 1) := Nat.pow_le_pow_right (by decide) (by omega)
          omega
      have hvn : trN (raiL p Lb) = Lb.length := by rw [← trL_len]; exact hVl
      refine callV _ (fun w' hm => trim_spec w' (s2.mono (encF_mono _) (hm 2 _ rfl)) (by rw [hrb.2.2]; omega)) ?_
      have sV := slTrim s2
      rw [hvn] at sV ⊢
      obtain ⟨vl, v2, v1, eV, hvl, hv1⟩ := last_two (L := trL (raiL p Lb)) (by omega)
      have hv0 : v1 ≠ 0 := by rw [← hv1]; exact cV.t _ (by omega) (by omega)
      have cV' := cV
      rw [eV] at cV' sV
      refine nw (by omega) (by omega) ?_
      refine nw (by omega) (by omega) ?_
      refine mkO (f := fW) (cxg _) (e := 88) rfl (La.length - Lb.length + 1) 0 rfl (by omega) (by omega) rfl (by omega) fun o52 ho52n ho52 => ?_
      refine nw (by omega) (by omega) ?_
      obtain ⟨b1, hb1⟩ := ho1.addr (by rw [hra.2.2]; omega)
      obtain ⟨a1', n1', c1', h1'⟩ := o1
      simp only at hb1
      subst hb1
      have hn1' : n1' = La.length + 1 := by have := ho1.len; rw [hra.2.2] at this; exact this
      subst hn1'
      have hnp := hra.2.2
      -- the loop
      refine NeedL.mk (Int × Hp × Dw.Os × List Nat × List Nat) (fun g => [(4, .v g.2.2.1.v), (8, .v (.int .i64 k)), (9, .v (.slice (some ⟨b1, 0, none⟩) (La.length + 1) c1')), (10, .v (.slice o2.a Lb.length o2.c)), (11, .v (.int .i64 g.1))]) (fun g => [.hp (Hp.whole w), .hp g.2.1, .hp o2.h, .hp g.2.2.1.h])
        (fun g => -1 ≤ g.1 ∧ g.1 ≤ La.length - Lb.length ∧ OwnO fW 88 1 ⟨some ⟨b1, 0, none⟩, La.length + 1, c1', g.2.1⟩ g.2.2.2.1 ∧ g.2.2.2.1.length = La.length + 1 ∧ OwnO fW 88 1 g.2.2.1 g.2.2.2.2 ∧ g.2.2.2.2.length = La.length - Lb.length + 1 ∧ LimL g.2.2.2.2 ∧
          DInv (x * p) (y * p) Lb.length g.2.2.2.1 (g.1 + 1).toNat (valL (g.2.2.2.2.drop (g.1 + 1).toNat))) (fun g => (g.1 + 1).toNat) ((o52.n : Int) - 1, h1', o52, raiL p La, List.replicate (La.length - Lb.length + 1) 0)
        ⟨by dsimp only; omega, by dsimp only; omega, ho1, hnp, ho52, by simp, fun d hd => by rw [List.eq_of_mem_replicate hd]; decide, div_start ca cb hb0 hll hp0 hpB rfl (by omega) (by simp)⟩ (Ent.mk (fun _ _ h => h) rfl rfl) ?_
      rintro ⟨i, hu, oq, u, Lq⟩ ⟨hi1, hi2, hou, hul, hoq, hql, hqlim, hD⟩
      dsimp only at *
      refine bsplitd (fun h5 => ?_) (fun h5 => ?_)
      · obtain ⟨m, hm⟩ : ∃ m : Nat, i = m := ⟨i.toNat, by omega⟩
        subst hm
        have em : ((m : Int) + 1).toNat = m + 1 := by omega
        rw [em] at hD
        have hmu : m + Lb.length < u.length := by omega
        have hwin := hD.window (by omega : m < u.length)
        obtain ⟨z0, hwv⟩ := window_val hmu hD.r (Nat.le_of_lt hyp)
        have hcutu := window_cut hmu
        obtain ⟨ul, u2, u1, eu, hul2, _⟩ := last_two (L := (u.drop m).take Lb.length) (by rw [List.length_take, List.length_drop]; omega)
        have hulen : ((u.drop m).take Lb.length).length = Lb.length := by rw [List.length_take, List.length_drop]; omega
        have hAl : (u.take m).length = m := by rw [List.length_take]; omega
        rw [eu] at hcutu hwv hulen
        have hlimW : LimL (ul ++ [u2, u1]) := fun d hd => hD.l d (by
          rw [← eu] at hd
          exact List.mem_of_mem_drop (List.mem_of_mem_take hd))
        refine nw (by omega) (by omega) ?_
        refine nw (by omega) (by omega) ?_
        refine slW (cxg _) (e := 88) rfl rfl m (m + Lb.length + 1) rfl (by omega) (by omega) (by have := hou.2.cap; dsimp only at this; omega) ?_
        rw [show m + Lb.length + 1 - m = Lb.length + 1 by omega]
        have hou2 : OwnO fW 88 1 ⟨some ⟨b1, 0, none⟩, La.length + 1, c1', hu⟩ (u.take m ++ (ul ++ [u2, u1] ++ u[m + Lb.length] :: u.drop (m + Lb.length + 1))) := by
          rw [← hcutu]; exact hou
        have htt : u[m + Lb.length] < Bs := hD.l _ (List.getElem_mem hmu)
        rw [hwv, ← cV'.v] at hwin
        refine callMO (i := 1) rfl (fun w0 w' hok => by
          have hsV := sV.mono (encF_mono _) (Hp.le_minus (hok.mem 2 _ rfl).whole (hok.disj 2 1 _ _ (by omega) rfl rfl))
          have := digit_spec (cu := c1' - m) w' (hok.mem 1 _ rfl) hou2 hsV (by have h9 := hulen; simp only [List.length_append, List.length_cons, List.length_nil] at h9; omega) hlimW htt cV'.l hv0 (by rw [← hcutu]; omega) (by rw [hulen]; exact hwin)
          rw [hAl] at this
          exact this) ?_
        rintro _ hu3 _ ⟨rfl, qd, w2, rfl, hqdB, hou3, hw2l, hw2m, hw2v, hw2r⟩
        have hmq : m < Lq.length := by omega
        refine oidx1 (cxg _) (e := 88) rfl rfl hoq m rfl hmq fun b3 hb3 => ?_
        refine osto (g := fun x : Nat => .int .u32 x) (fun _ => rfl) (cxg _) (i := 3) rfl hb3 hoq hmq rfl rfl qd rfl rfl rfl fun o3 f1 f2 f3 ho3 => ?_
        refine nw (by omega) (by omega) ?_
        have e0 : ((m : Int) - 1 + 1).toNat = m := by omega
        have hdr : (u.take m ++ (w2 ++ u.drop (m + Lb.length + 1))).drop m = w2 ++ u.drop (m + Lb.length + 1) := List.drop_left' hAl
        have hw2z : valL (w2 ++ u.drop (m + Lb.length + 1)) = valL w2 := by rw [valL_append, z0]; simp
        have hnext : DInv (x * p) (y * p) Lb.length (u.take m ++ (w2 ++ u.drop (m + Lb.length + 1))) m (qd + Bs * valL (Lq.drop (m + 1))) := by
          refine hD.next (by omega) (fun d hd => ?_) (by simp only [List.length_append, List.length_drop, hAl, hw2l]; omega) (List.take_left' hAl) ?_ ?_
          · rcases List.mem_append.1 hd with g | g
            · exact hD.l d (List.mem_of_mem_take g)
            · rcases List.mem_append.1 g with g | g
              · exact hw2m d g
              · exact hD.l d (List.mem_of_mem_drop g)
          · rw [hdr, hw2z, hwv]
            rw [cV'.v, hulen] at hw2v
            exact hw2v
          · rw [hdr, hw2z]
            rw [cV'.v] at hw2r
            exact hw2r
        refine ⟨((m : Int) - 1, hu3, o3, _, Lq.set m qd), ⟨by dsimp only; omega, by dsimp only; omega, hou3, by simp only [List.length_append, List.length_drop, hAl, hw2l]; omega, ho3, by rw [List.length_set]; exact hql, fun d hd => ?_, ?_⟩, by dsimp only; omega, Ent.mk (fun _ _ h => h) (by dsimp only [Os.v]; rw [f1, f2, f3]; rfl) rfl⟩
        · rcases List.mem_or_eq_of_mem_set hd with g | g
          · exact hqlim d g
          · rw [g]; exact hqdB
        · dsimp only
          rw [e0, drop_setE hmq]
          exact hnext
      · have ei : (i + 1).toNat = 0 := by omega
        rw [ei, List.drop_zero] at hD
        obtain ⟨hQ, hR⟩ := hD.fin
        rw [Nat.mul_div_mul_right _ _ hp0] at hQ
        rw [Nat.mul_mod_mul_right] at hR
        have sq := OwnO.sl (f := fW) (sz := 1) (fun _ => rfl) (by decide) hoq
        have su := OwnO.sl (f := fW) (sz := 1) (fun _ => rfl) (by decide) hou
        have cq := can_trim hqlim
        have cu := can_trim hD.l
        rw [hQ] at cq
        rw [hR] at cu
        refine callV _ (fun w' hm => trim_spec w' (sq.mono (encF_mono _) (hm 3 _ rfl)) (by omega)) ?_
        refine callV _ (fun w' hm => trim_spec w' (su.mono (encF_mono _) (hm 1 _ rfl)) (by omega)) ?_
        refine callS (fun w' hm => lowered_spec w' k ((slTrim su).mono (encF_mono _) (hm 1 _ rfl)) cu.l (by rw [trL_len]; have := trN_le u; omega) hk) ?_
        rintro _ _ ⟨g, ar, nr, cr, Lr, rfl, rfl, sr, cr'⟩ hsat
        rw [cu.v, hp, Nat.mul_div_cancel _ hp0] at cr'
        exact ⟨[.hp (oq.h.join g)], ⟨_, _, _, rfl, rfl, ⟨_, _, _, _, rfl, (slTrim sq).mono (encF_mono _) (Hp.le_left _ _), cq, by have := cq.le_len ca (Nat.div_le_self _ _); omega⟩,
          .inr ⟨_, _, _, _, rfl, sr.mono (encF_mono _) (hsat.leR 3 4 rfl rfl), cr', by have := cr'.le_len ca (Nat.mod_le _ _); omega⟩⟩, fun w' h => Ok.join (h.pick [0, 3, 4] rfl rfl)⟩
end Go.Proofs.YtoholjdojdmbkaaGreatDoor
namespace Go.Proofs.YtoholjdojdmbkaaGreatDoor
open Go Go.RowKit Go.Dw
theorem Mag.len {h : Hp} {a : Option Addr} {n c m : Nat} (hm : Mag h (.slice a n c) m) : n = 0 ↔ m = 0 := by
  obtain ⟨a', n', c', L, e, h1, h2, _⟩ := hm
  cases e
  rw [h2.zero, h1.len]
  exact ⟨List.eq_nil_of_length_eq_zero, fun e => by rw [e]; rfl⟩
/-- a magnitude that reads from two chunks -/
def Rd2 (W G : Hp) (t : Option Addr × Nat × Nat) (m : Nat) : Prop := ∀ k, W.le k → G.le k → Mag k (.slice t.1 t.2.1 t.2.2) m
theorem Mag.slice {h : Hp} {v : Value} {m : Nat} (hm : Mag h v m) : ∃ t : Option Addr × Nat × Nat, v = .slice t.1 t.2.1 t.2.2 := by
  obtain ⟨a, n, c, L, e, _⟩ := hm
  exact ⟨(a, n, c), e⟩
theorem gcd_spec {g1 g2 : Bool} {a1 a2 : Option Addr} {n1 c1 n2 c2 x y : Nat} {h : Hp} (w : World) (hin : h.In w) (ha : Mag h (.slice a1 n1 c1) x) (hb : Mag h (.slice a2 n2 c2) y) :
    CallsE Tryz.prog 27 #[intV g1 a1 n1 c1, intV g2 a2 n2 c2] w (Ret w fun v cs => ∃ g a n c, cs = [.hp g] ∧ v = intV false a n c ∧ ∀ k, h.le k → g.le k → Mag k (.slice a n c) (Nat.gcd x y)) := by
  have hW : h.le (Hp.whole w) := hin.whole
  refine enter (X := cx 26) (cxg _) (args := [intV g1 a1 n1 c1, intV g2 a2 n2 c2]) [.cell 4 54] Tryz.func27 rfl rfl rfl rfl rfl ?_
  intro b2
  intro b3
  intro b4
  refine NeedD.by_order (cxg _) (.take 0 <| .take 1 <| .take 2 <| .take 3 <| .take 4 <| .take 5 <| .done) (by kernel_rfl) ?_
  refine NeedL.mkS ((Option Addr × Nat × Nat) × (Option Addr × Nat × Nat) × Nat × Nat × Hp) (fun g => [(4, .bx 3 0), (5, .v (.slice g.1.1 g.1.2.1 g.1.2.2)), (6, .v (.slice g.2.1.1 g.2.1.2.1 g.2.1.2.2))])
    (fun g => [.hp (Hp.whole w), .box b2 [.bool g1, .slice a1 n1 c1] 54, .box b3 [.bool g2, .slice a2 n2 c2] 54, .box b4 [.bool false, .slice none 0 0] 54, .hp g.2.2.2.2])
    (fun g => Rd2 h g.2.2.2.2 g.1 g.2.2.1 ∧ Rd2 h g.2.2.2.2 g.2.1 g.2.2.2.1 ∧ Nat.gcd g.2.2.1 g.2.2.2.1 = Nat.gcd x y) (fun g => g.2.2.2.1) ((a1, n1, c1), (a2, n2, c2), x, y, Hp.emp)
    ⟨fun k h1 _ => ha.mono h1, fun k h1 _ => hb.mono h1, rfl⟩ (Ent.mk (fun _ _ h => h.emp) rfl rfl) ?_
  rintro ⟨⟨ax, nx, cx⟩, ⟨ay, ny, cy⟩, X, Y, G⟩ ⟨hX, hY, hg⟩ hsat
  dsimp only at *
  have hX' : ∀ k, h.le k → G.le k → Mag k (.slice ax nx cx) X := hX
  have hY' : ∀ k, h.le k → G.le k → Mag k (.slice ay ny cy) Y := hY
  have hl := (hY' ((Hp.whole w).join G) (fun b o e => Hp.le_left _ _ b o (hW b o e)) (hsat.leR 0 4 rfl rfl)).len
  refine bsplitd (fun h1 => ?_) (fun h1 => ?_)
  · have hYp : 0 < Y := Nat.pos_of_ne_zero fun e => by
      have := hl.2 e
      omega
    clear hsat
    refine callS (fun w' hm => divide_spec w' (hX' _ (fun b o e => (hm 0 _ rfl).whole b o (hW b o e)) (hm 4 _ rfl).whole) (hY' _ (fun b o e => (hm 0 _ rfl).whole b o (hW b o e)) (hm 4 _ rfl).whole) hYp) ?_
    rintro _ _ ⟨g, vq, vr, rfl, rfl, _, hr⟩ hsat
    have hgl : g.le (G.join g) := hsat.leR 4 5 rfl rfl
    have hr2 : ∀ k, h.le k → (G.join g).le k → Mag k vr (X % Y) := fun k k1 k2 => by
      rcases hr with ⟨rfl, hlt⟩ | hr
      · rw [Nat.mod_eq_of_lt hlt]
        exact hX' k k1 fun b o e => k2 b o (Hp.le_left _ _ b o e)
      · exact hr.mono fun b o e => k2 b o (hgl b o e)
    obtain ⟨⟨ar, nr, cr⟩, rfl⟩ := (hr2 ((Hp.whole w).join (G.join g)) (fun b o e => Hp.le_left _ _ b o (hW b o e)) (by
      have h1 : Hp.le (G.join g) ((Hp.whole w).join (G.join g)) := by
        obtain ⟨w0, w1, hok⟩ := hsat
        exact Hp.le_join_in (hok.mem 0 _ rfl) (Hp.join_in (hok.mem 4 _ rfl) (hok.mem 5 _ rfl))
      exact h1)).slice
    refine ⟨((ay, ny, cy), (ar, nr, cr), Y, X % Y, G.join g), ⟨fun k k1 k2 => hY' k k1 fun b o e => k2 b o (Hp.le_left _ _ b o e), hr2, ?_⟩, Nat.mod_lt _ hYp, Ent.mk (fun _ _ h => (Ok.join (h.pick [0, 4, 5, 1, 2, 3] rfl rfl)).pick [0, 2, 3, 4, 1] rfl rfl) rfl rfl⟩
    dsimp only
    rw [← gcd_step]; exact hg
  · have hY0 : Y = 0 := hl.1 (by omega)
    subst hY0
    rw [Nat.gcd_zero_right] at hg
    subst hg
    exact ⟨[.hp G], ⟨_, _, _, _, rfl, rfl, hX'⟩, fun w' h => h.pick [0, 4] rfl rfl⟩
theorem nwBack {u : Nat} {z : Int} {q : Int → Prop} (hz : z = ((-(u : Int)) % 18446744073709551616)) (hu : u ≤ 9223372036854775808) (hq : q (-(u : Int))) : NeedW .i64 z q := by
  refine ⟨-(u : Int), ?_, hq⟩
  subst hz
  simp only [IntKind.wrap, IntKind.bits, IntKind.signed]
  simp
  omega
/-- an integer as an int, if it is one -/
def intI (neg : Bool) (m : Nat) : Int × Bool := if neg = true then (if m ≤ 9223372036854775808 then (-(m : Int), true) else (0, false)) else (if m < 9223372036854775808 then ((m : Int), true) else (0, false))
theorem int_spec {neg : Bool} {a : Option Addr} {n c m : Nat} (w : World) (ha : Mag (Hp.whole w) (.slice a n c) m) :
    CallsE Tryz.prog 28 #[intV neg a n c] w (RetV w (.tuple #[.int .i64 (intI neg m).1, .bool (intI neg m).2])) := by
  obtain ⟨a', n', c', L, e, hs, hc, hl⟩ := ha
  cases e
  have hn := hs.len
  refine enter (X := cx 47) (cxg _) (args := [intV neg a n c]) [.tmp 2, .tmp 3] Tryz.func28 rfl rfl rfl rfl rfl ?_
  intro b1
  refine bsplitd (fun h1 => ?_) (fun h1 => ?_)
  · have h2 := hc.ge (by omega)
    have h3 : Bs ^ 2 ≤ Bs ^ (L.length - 1) := Nat.pow_le_pow_right (by decide) (by omega)
    have h4 : Bs ^ 2 = 18446744073709551616 := rfl
    have e : intI neg m = (0, false) := by
      unfold intI
      split
      · rw [if_neg (by omega)]
      · rw [if_neg (by omega)]
    exact ⟨[], ⟨by rw [e], rfl⟩, fun w' h => h.pick [0] rfl rfl⟩
  · refine NeedL.mk (Nat × Int) (fun g => [(1, .bx 1 0), (4, .v (.int .u64 g.2)), (12, .v (.slice a n c)), (13, .v (.int .i64 n)), (14, .v (.int .i64 g.1))]) (fun g => [.hp (Hp.whole w), .box b1 [.bool neg, .slice a n c] 54])
      (fun g => g.1 ≤ L.length ∧ g.2 = ((valL (L.take g.1) : Nat) : Int)) (fun g => L.length - g.1) (0, 0) ⟨Nat.zero_le _, rfl⟩ (Ent.mk (fun _ _ h => h) rfl rfl) ?_
    rintro ⟨i, zu⟩ ⟨hi, hz⟩
    dsimp only at *
    refine bsplitd (fun h2 => ?_) (fun h2 => ?_)
    · have hi' : i < L.length := by omega
      have hd : L[i] < 4294967296 := hc.l _ (List.getElem_mem hi')
      have hp : 2 ^ (32 * i) = Bs ^ i := by rw [Nat.pow_mul]; rfl
      have htv := valL_lt (m := L.take i) fun d hd => hc.l d (List.mem_of_mem_take hd)
      rw [List.length_take, Nat.min_eq_left hi] at htv
      have hsn := valL_snoc (L.take i) L[i]
      rw [← take_snoc L i hi', List.length_take, Nat.min_eq_left hi] at hsn
      have hB : Bs ^ i * L[i] < 18446744073709551616 ∧ valL (L.take i) < 18446744073709551616 := by
        have : i = 0 ∨ i = 1 := by omega
        rcases this with rfl | rfl
        · rw [Nat.pow_zero] at htv ⊢; omega
        · rw [Nat.pow_one] at htv ⊢; unfold Bs at htv ⊢; omega
      refine idx (cxg _) (e := 88) rfl hs i rfl hi' (fun b9 o9 cs hcs hR hcell2 => ?_)
      subst hR
      refine ld1 (cxg _) (i := 0) rfl (hcell2 0 _ rfl) rfl ?_
      refine nw64Eq L[i] rfl (by omega) ?_
      refine nwEq (y := ((32 * i : Nat) : Int)) (by simp) (by omega) (by omega) ?_
      refine qShlG64 L[i] (32 * i) rfl rfl (by omega) ?_
      rw [hp, Nat.mul_comm L[i], Nat.mod_eq_of_lt hB.1]
      refine qOr64 (valL (L.take i)) (Bs ^ i * L[i]) hz rfl hB.2 hB.1 ?_
      rw [or_low' (k := 32 * i) hp.symm htv, ← hsn]
      refine nw (by omega) (by omega) ?_
      exact ⟨(i + 1, _), ⟨by dsimp only; omega, rfl⟩, by dsimp only; omega, Ent.mk (fun _ _ h => h) rfl rfl⟩
    · have hi' : i = L.length := by omega
      subst hi'
      rw [List.take_length, hc.v] at hz
      have hB : m < 18446744073709551616 := by
        have := hc.lt
        have h3 : Bs ^ L.length ≤ Bs ^ 2 := Nat.pow_le_pow_right (by decide) (by omega)
        have h4 : Bs ^ 2 = 18446744073709551616 := rfl
        omega
      refine bsplit (fun h4 => ?_) (fun h4 => ?_)
      · have hneg : neg = false := by simpa using h4
        subst hneg
        refine bsplitd (fun h5 => ?_) (fun h5 => ?_)
        · refine nw (by omega) (by omega) ?_
          exact ⟨[], ⟨by unfold intI; rw [if_neg (by decide), if_pos (by omega), hz], rfl⟩, fun w' h => h.pick [0] rfl rfl⟩
        · exact ⟨[], ⟨by unfold intI; rw [if_neg (by decide), if_neg (by omega)], rfl⟩, fun w' h => h.pick [0] rfl rfl⟩
      · have hneg : neg = true := by simpa using h4
        subst hneg
        refine bsplitd (fun h5 => ?_) (fun h5 => ?_)
        · refine nwMod64 (y := (-(m : Int)) % 18446744073709551616) (by rw [hz, Int.zero_sub]) ?_
          refine nwBack rfl (by omega) ?_
          exact ⟨[], ⟨by unfold intI; rw [if_pos rfl, if_pos (by omega)], rfl⟩, fun w' h => h.pick [0] rfl rfl⟩
        · exact ⟨[], ⟨by unfold intI; rw [if_pos rfl, if_neg (by omega)], rfl⟩, fun w' h => h.pick [0] rfl rfl⟩
theorem sign_spec {neg : Bool} {a : Option Addr} {n c m : Nat} (w : World) (ha : Mag (Hp.whole w) (.slice a n c) m) :
    CallsE Tryz.prog 134 #[intV neg a n c] w (RetV w (.int .i64 (if m = 0 then 0 else if neg = true then -1 else 1))) := by
  have hl := ha.len
  refine enter (X := cx 11) (cxg _) (args := [intV neg a n c]) [.tmp 2] Tryz.func134 rfl rfl rfl rfl rfl ?_
  intro b1
  refine bsplitd (fun h1 => ?_) (fun h1 => ?_)
  · exact ⟨[], ⟨by rw [if_pos (hl.1 (by omega))], rfl⟩, fun w' h => h.pick [0] rfl rfl⟩
  · have : m ≠ 0 := fun e => by have := hl.2 e; omega
    refine bsplit (fun h2 => ?_) (fun h2 => ?_)
    · exact ⟨[], ⟨by rw [if_neg this, if_pos h2], rfl⟩, fun w' h => h.pick [0] rfl rfl⟩
    · exact ⟨[], ⟨by rw [if_neg this, h2]; rfl, rfl⟩, fun w' h => h.pick [0] rfl rfl⟩
end Go.Proofs.YtoholjdojdmbkaaGreatDoor
