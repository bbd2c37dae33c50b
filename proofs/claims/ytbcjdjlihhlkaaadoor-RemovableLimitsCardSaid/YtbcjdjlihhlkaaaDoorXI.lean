/- Parts of one proof, joined: Gp, Lb, Lc, P7, P8. No condition of its own. -/
import Derived.Test.YtbcjdjlihhlkaaaDoorXG
import Derived.Test.YtbcjdjlihhlkaaaDoorXB
namespace Go.Proofs.YtbcjdjlihhlkaaaDoor
open Go Go.RowKit Go.Dw
theorem flat_take_succ {α : Type} {LL : List (List α)} {k : Nat} (h : k < LL.length) : (LL.take (k + 1)).flatten = (LL.take k).flatten ++ LL[k] := by
  rw [List.take_succ_eq_append_getElem h, List.flatten_append]; simp
theorem flat_take_le {α : Type} {LL : List (List α)} (k : Nat) : (LL.take k).flatten.length ≤ LL.flatten.length := by
  have : LL.flatten = (LL.take k).flatten ++ (LL.drop k).flatten := by rw [← List.flatten_append, List.take_append_drop]
  rw [this, List.length_append]; omega
/-- the edges, and back again -/
def bothE (_N : Nat) (E : List (Int × Int)) : List (Int × Int) := dd (sortF (E ++ revF E))
theorem both_make {N : Nat} {E : List (Int × Int)} (hG : Gr N E) : makeR N (E ++ revF E) = ((N : Int), bothE N E, 0) := by
  have hN := hG.hN
  unfold makeR bothE
  rw [if_neg (by omega), if_neg]
  rw [Bool.not_eq_true, List.any_eq_false]
  intro e he
  have h : ∀ e ∈ E, ¬ outF N e = true := fun e he => by
    have := hG.rng e he
    simp [outF, beyondF]; omega
  rcases List.mem_append.1 he with he | he
  · exact h e he
  · have := (revF_gr hG).rng e he
    simp [outF, beyondF]; omega
theorem both_gr {N : Nat} {E : List (Int × Int)} (hG : Gr N E) (hl : E.length ≤ 5000) : Gr N (bothE N E) := by
  refine ⟨hG.hN, fun e he => ?_, ?_⟩
  · unfold bothE at he
    have he := sortF_mem.1 (dd_sub he)
    rcases List.mem_append.1 he with he | he
    · exact hG.rng e he
    · exact (revF_gr hG).rng e he
  · unfold bothE
    refine Nat.le_trans (dd_len _) ?_
    rw [sortF_len, List.length_append]
    unfold revF
    rw [sortF_len, List.length_map]; omega
theorem two_rows {α : Type} {R : Enc α} {sz : Nat} {H : Hp} {a a' : Option Addr} {n c n' c' : Nat} {A B : List α} (hA : Sl R sz H a n c A) (hB : Sl R sz H a' n' c' B) : ∀ (i : Nat) v L, ([.slice a n c, .slice a' n' c'] : List Value)[i]? = some v → [A, B][i]? = some L → encS R sz H L [v]
  | 0, v, L, h1, h2 => by cases h1; cases h2; exact ⟨a, n, c, rfl, hA⟩
  | 1, v, L, h1, h2 => by cases h1; cases h2; exact ⟨a', n', c', rfl, hB⟩
  | i + 2, v, L, h1, h2 => by simp at h1
def parR (N : Int) (E : List (Int × Int)) : List (List Int) := if checkF N E = 0 then compF N.toNat (bothE N.toNat E) else []
end Go.Proofs.YtbcjdjlihhlkaaaDoor
namespace Go.Dw
open Go Go.RowKit
theorem nwU {x : Int} {q : Int → Prop} (h1 : 0 ≤ x) (h2 : x ≤ 18446744073709551615) (hq : q x) : NeedW .u64 x q := by
  refine ⟨x, ?_, hq⟩
  rw [IntKind.wrap_u64]; omega
theorem qShr64 {P : Program} {s : List Ch} {ty : Nat} {x : Int} {q : TV → Prop} (h : q (.v (.int .u64 (x / 2)))) : NeedQ P s (binOp .shr ty (.int .u64 x) (.int .u64 1)) q := by
  refine ⟨_, fun w _ => ?_, h⟩
  have : x.fdiv 2 = x / 2 := Int.fdiv_eq_ediv_of_nonneg _ (by decide)
  simp [binOp, Op.shift, IntKind.bits, this]
end Go.Dw
namespace Go.Proofs.YtbcjdjlihhlkaaaDoor
open Go Go.RowKit Go.Dw
/-- how many are less -/
def lbN (L : List Int) (x : Int) : Nat := (L.filter fun y => decide (y < x)).length
theorem lbN_at {L : List Int} {x : Int} {i : Nat} (hi : i ≤ L.length) (h1 : ∀ t (h : t < L.length), t < i → L[t] < x) (h2 : ∀ t (h : t < L.length), i ≤ t → x ≤ L[t]) : lbN L x = i := by
  unfold lbN
  rw [← List.take_append_drop i L, List.filter_append, List.length_append]
  have e1 : (L.take i).filter (fun y => decide (y < x)) = L.take i := List.filter_eq_self.2 fun y hy => by
    obtain ⟨t, ht, rfl⟩ := List.getElem_of_mem hy
    rw [List.length_take] at ht
    rw [List.getElem_take, decide_eq_true_eq]
    exact h1 t (by omega) (by omega)
  have e2 : (L.drop i).filter (fun y => decide (y < x)) = [] := List.filter_eq_nil_iff.2 fun y hy => by
    obtain ⟨t, ht, rfl⟩ := List.getElem_of_mem hy
    rw [List.length_drop] at ht
    rw [List.getElem_drop, decide_eq_true_eq]
    have := h2 (i + t) (by omega) (by omega)
    omega
  rw [e1, e2, List.length_take]
  simp; omega
/-! ### Induced -/
theorem asc_pw {L : List Int} (h : ascF L = true) : L.Pairwise (· < ·) := by
  unfold ascF at h
  rw [List.all_eq_true] at h
  have adj : ∀ i (hi : i + 1 < L.length), L[i] < L[i + 1] := fun i hi => by
    have := h i (List.mem_range.2 (by omega))
    have e1 : L.getD i 0 = L[i] := by simp [List.getD, show i < L.length by omega]
    have e2 : L.getD (i + 1) 0 = L[i + 1] := by simp [List.getD, hi]
    rw [decide_eq_true_eq, e1, e2] at this
    exact this
  have all : ∀ d i (hi : i + 1 + d < L.length), L[i] < L[i + 1 + d] := fun d => by
    induction d with
    | zero => intro i hi; exact adj i hi
    | succ d ih => intro i hi; exact Int.lt_trans (ih i (by omega)) (adj (i + 1 + d) hi)
  refine List.pairwise_iff_getElem.2 fun i j hi hj hij => ?_
  have := all (j - i - 1) i (by omega)
  have e : i + 1 + (j - i - 1) = j := by omega
  simp only [e] at this
  exact this
def inL (L : List Int) (e : Int × Int) : Bool := decide (e.1 ∈ L) && decide (e.2 ∈ L)
def indF (E : List (Int × Int)) (L : List Int) : List (Int × Int) := (E.filter (inL L)).map fun e => ((lbN L e.1 : Int), (lbN L e.2 : Int))
theorem indF_step {E : List (Int × Int)} {L : List Int} {k : Nat} (hk : k < E.length) : indF (E.take (k + 1)) L = if inL L E[k] then indF (E.take k) L ++ [((lbN L E[k].1 : Int), (lbN L E[k].2 : Int))] else indF (E.take k) L := by
  unfold indF
  rw [List.take_succ_eq_append_getElem hk, List.filter_append, List.map_append]
  by_cases h : inL L E[k] <;> simp [h]
theorem indF_len (E : List (Int × Int)) (L : List Int) : (indF E L).length ≤ E.length := by
  unfold indF; rw [List.length_map]; exact List.length_filter_le _ _
def indR (N : Int) (E : List (Int × Int)) (L : List Int) : Int × List (Int × Int) × Int := if readyF N E L = 0 then (L.length, indF E L, 0) else (0, [], readyF N E L)
end Go.Proofs.YtbcjdjlihhlkaaaDoor
namespace Go.Proofs.YtbcjdjlihhlkaaaDoor
open Go Go.RowKit Go.Dw
def nodF (N : Int) (L : List Int) : Int := if L.any (beyondF N) then 2 else if ascF L then 0 else 8
theorem ready_nod {N : Int} {E : List (Int × Int)} {L : List Int} (h0 : checkF N E = 0) : readyF N E L = nodF N L := by
  unfold readyF nodF; rw [if_neg (by rw [h0]; simp)]
def rinRow (E : List (Int × Int)) (L : List Int) (a k : Nat) : List (Int × Int) := ((List.range k).filter fun b : Nat => hasF E (L.getD a 0) (L.getD b 0)).map fun b : Nat => ((a : Int), (b : Int))
def rinK (E : List (Int × Int)) (L : List Int) (a : Nat) : List (Int × Int) := (List.range a).flatMap fun i => rinRow E L i L.length
theorem rinRow_succ (E : List (Int × Int)) (L : List Int) (a k : Nat) : rinRow E L a (k + 1) = if hasF E (L.getD a 0) (L.getD k 0) then rinRow E L a k ++ [((a : Int), (k : Int))] else rinRow E L a k := by
  unfold rinRow
  rw [List.range_succ, List.filter_append, List.map_append]
  by_cases h : hasF E (L.getD a 0) (L.getD k 0)
  · rw [if_pos h, List.filter_cons_of_pos (by exact h)]; rfl
  · rw [if_neg h, List.filter_cons_of_neg (by exact h), List.filter_nil, List.map_nil, List.append_nil]
theorem rinK_succ (E : List (Int × Int)) (L : List Int) (a : Nat) : rinK E L (a + 1) = rinK E L a ++ rinRow E L a L.length := by
  unfold rinK; rw [List.range_succ, List.flatMap_append]; simp
theorem rinRow_len (E : List (Int × Int)) (L : List Int) (a k : Nat) : (rinRow E L a k).length ≤ k := by
  unfold rinRow; rw [List.length_map]; exact Nat.le_trans (List.length_filter_le _ _) (by simp)
theorem rinK_len (E : List (Int × Int)) (L : List Int) : ∀ a, (rinK E L a).length ≤ a * L.length
  | 0 => by simp [rinK]
  | a + 1 => by
    rw [rinK_succ, List.length_append, Nat.succ_mul]
    exact Nat.add_le_add (rinK_len E L a) (rinRow_len E L a _)
/-! ### the plain laws -/
theorem lbN_idx {L : List Int} (hs : L.Pairwise (· < ·)) {i : Nat} (hi : i < L.length) : lbN L L[i] = i :=
  lbN_at (by omega) (fun t h h' => List.pairwise_iff_getElem.1 hs t i h hi h') (fun t h h' => by
    by_cases he : t = i
    · subst he; exact Int.le_refl _
    · have := List.pairwise_iff_getElem.1 hs i t hi h (by omega); omega)
theorem ind_eq {E : List (Int × Int)} {L : List Int} (hE : Srt E) (hs : L.Pairwise (· < ·)) : indF E L = rinK E L L.length := by
  have rs : ∀ a k, Srt (rinRow E L a k) := fun a k => by
    unfold rinRow Srt
    rw [List.pairwise_map]
    refine List.Pairwise.filter _ (List.Pairwise.imp (fun {x y} h => ?_) (pw_range k))
    unfold elt; dsimp only; omega
  have rm : ∀ a k x, x ∈ rinRow E L a k ↔ ∃ b : Nat, b < k ∧ (L.getD a 0, L.getD b 0) ∈ E ∧ x = ((a : Int), (b : Int)) := fun a k x => by
    unfold rinRow
    simp only [List.mem_map, List.mem_filter, List.mem_range, hasF_iff]
    constructor
    · rintro ⟨b, ⟨h1, h2⟩, rfl⟩; exact ⟨b, h1, h2, rfl⟩
    · rintro ⟨b, h1, h2, rfl⟩; exact ⟨b, ⟨h1, h2⟩, rfl⟩
  have ks : ∀ a, Srt (rinK E L a) := fun a => by
    induction a with
    | zero => simp [rinK, Srt]
    | succ a ih =>
      rw [rinK_succ]
      refine List.pairwise_append.2 ⟨ih, rs a _, fun x hx y hy => ?_⟩
      unfold rinK at hx
      obtain ⟨i, hi, hx⟩ := List.mem_flatMap.1 hx
      obtain ⟨b, _, _, rfl⟩ := (rm _ _ _).1 hx
      obtain ⟨b', _, _, rfl⟩ := (rm _ _ _).1 hy
      have := List.mem_range.1 hi
      unfold elt; dsimp only; omega
  have gd : ∀ i (h : i < L.length), L.getD i 0 = L[i] := fun i h => by simp [List.getD, h]
  refine Srt.ext ?_ (ks _) fun x => ?_
  · unfold indF Srt
    rw [List.pairwise_map, List.pairwise_filter]
    refine List.Pairwise.imp (fun {e e'} h h1 h2 => ?_) hE
    unfold inL at h1 h2
    simp only [Bool.and_eq_true, decide_eq_true_eq] at h1 h2
    obtain ⟨i1, q1, r1⟩ := List.getElem_of_mem h1.1
    obtain ⟨i2, q2, r2⟩ := List.getElem_of_mem h1.2
    obtain ⟨j1, q3, r3⟩ := List.getElem_of_mem h2.1
    obtain ⟨j2, q4, r4⟩ := List.getElem_of_mem h2.2
    have lt_of : ∀ i j (hi : i < L.length) (hj : j < L.length), L[i] < L[j] → i < j := fun i j hi hj hlt => by
      refine Classical.byContradiction fun hn => ?_
      by_cases he : i = j
      · subst he; omega
      · have := List.pairwise_iff_getElem.1 hs j i hj hi (by omega); omega
    have eq_of : ∀ i j (hi : i < L.length) (hj : j < L.length), L[i] = L[j] → i = j := fun i j hi hj hq => by
      refine Classical.byContradiction fun hn => ?_
      rcases Nat.lt_or_gt_of_ne hn with h | h
      · have := List.pairwise_iff_getElem.1 hs i j hi hj h; omega
      · have := List.pairwise_iff_getElem.1 hs j i hj hi h; omega
    unfold elt at h ⊢
    dsimp only
    have k1 : lbN L e.1 = i1 := by rw [← r1]; exact lbN_idx hs q1
    have k2 : lbN L e.2 = i2 := by rw [← r2]; exact lbN_idx hs q2
    have k3 : lbN L e'.1 = j1 := by rw [← r3]; exact lbN_idx hs q3
    have k4 : lbN L e'.2 = j2 := by rw [← r4]; exact lbN_idx hs q4
    rw [k1, k2, k3, k4]
    rcases h with h | ⟨h, h'⟩
    · left; have := lt_of _ _ q1 q3 (by rw [r1, r3]; exact h); omega
    · right; exact ⟨by have := eq_of _ _ q1 q3 (by rw [r1, r3]; exact h); omega, by have := lt_of _ _ q2 q4 (by rw [r2, r4]; exact h'); omega⟩
  · unfold indF rinK
    simp only [List.mem_map, List.mem_filter, List.mem_flatMap, List.mem_range]
    constructor
    · rintro ⟨e, ⟨he, hin⟩, rfl⟩
      unfold inL at hin
      simp only [Bool.and_eq_true, decide_eq_true_eq] at hin
      obtain ⟨i, q1, r1⟩ := List.getElem_of_mem hin.1
      obtain ⟨j, q2, r2⟩ := List.getElem_of_mem hin.2
      refine ⟨i, q1, (rm _ _ _).2 ⟨j, q2, by rw [gd i q1, gd j q2, r1, r2]; exact he, ?_⟩⟩
      rw [← r1, ← r2, lbN_idx hs q1, lbN_idx hs q2]
    · rintro ⟨i, hi, hx⟩
      obtain ⟨j, hj, hm, rfl⟩ := (rm _ _ _).1 hx
      rw [gd i hi, gd j hj] at hm
      refine ⟨(L[i], L[j]), ⟨hm, ?_⟩, ?_⟩
      · unfold inL; rw [decide_eq_true (List.getElem_mem hi), decide_eq_true (List.getElem_mem hj)]; rfl
      · dsimp only; rw [lbN_idx hs hi, lbN_idx hs hj]
theorem rev_eq {N : Nat} {E : List (Int × Int)} (hG : Gr N E) (hE : Srt E) : rmkR N (E.map flip) = ((N : Int), revF E, 0) := by
  have hout : (E.map flip).any (outF N) = false := by
    rw [List.any_eq_false]
    intro x hx
    obtain ⟨e, he, rfl⟩ := List.mem_map.1 hx
    have := hG.rng _ he
    have h1 : beyondF N e.1 = false := by unfold beyondF; rw [decide_eq_false (by omega), decide_eq_false (by omega)]; rfl
    have h2 : beyondF N e.2 = false := by unfold beyondF; rw [decide_eq_false (by omega), decide_eq_false (by omega)]; rfl
    show ¬ (beyondF N e.2 || beyondF N e.1) = true
    rw [h1, h2]; exact Bool.false_ne_true
  have hN := hG.hN
  unfold rmkR
  rw [if_neg (by rw [hout]; simp; omega), Int.toNat_natCast]
  congr 2
  refine Srt.ext (mkF_srt N _) ?_ fun x => ?_
  · have hnd : (E.map flip).Nodup := by
      unfold List.Nodup
      rw [List.pairwise_map]
      refine List.Pairwise.imp (fun {x y} h he => ?_) hE
      unfold flip at he
      simp only [Prod.mk.injEq] at he
      unfold elt at h; omega
    have hnd2 : (revF E).Nodup := (List.mergeSort_perm _ _).nodup_iff.2 hnd
    have hpw := sortF_pw (E.map flip)
    refine List.Pairwise.imp₂ (fun {x y} h1 h2 => ?_) hpw hnd2
    exact Classical.byContradiction fun hn => h2 (elt_tri hn h1)
  · rw [mkF_mem, show revF E = sortF (E.map flip) from rfl, sortF_mem]
    refine ⟨fun h => h.1, fun h => ⟨h, ?_⟩⟩
    have := List.any_eq_false.1 hout x h
    simpa using this
end Go.Proofs.YtbcjdjlihhlkaaaDoor
namespace Go.Proofs.YtbcjdjlihhlkaaaDoor
open Go Go.RowKit Go.Dw
theorem rev_check {N : Nat} {E : List (Int × Int)} (hG : Gr N E) (hE : Srt E) : checkF N (revF E) = 0 := by
  have h := rev_eq hG hE
  have k := makeR_rmkR (N : Int) (E.map flip)
  rw [h] at k
  have := make_check (N := (N : Int)) (E := E.map flip) (by rw [k])
  rw [k] at this
  exact this
theorem rchFlip {N : Nat} {E : List (Int × Int)} (a b : Int) : rch N (revF E) a b = rch N E b a := by unfold rch; rw [dst_flip]
theorem eqv_rev {N : Nat} {E : List (Int × Int)} : eqv N (revF E) = eqv N E := by
  funext a b
  unfold eqv
  rw [rchFlip, rchFlip, Bool.and_comm]
theorem comp_rev {N : Nat} {E : List (Int × Int)} : compF N (revF E) = compF N E := by
  have h1 : isLeast N (revF E) = isLeast N E := by funext k; unfold isLeast; rw [eqv_rev]
  have h2 : cls N (revF E) = cls N E := by funext k; unfold cls; rw [eqv_rev]
  unfold compF reps
  rw [h1, h2]
theorem both_mem {N : Nat} {E : List (Int × Int)} {e : Int × Int} : e ∈ bothE N E ↔ e ∈ E ∨ flip e ∈ E := by
  unfold bothE
  rw [dd_mem, sortF_mem, List.mem_append, revF_mem]
theorem both_rev {N : Nat} {E : List (Int × Int)} : bothE N (revF E) = bothE N E := by
  refine Srt.ext (srt_make _) (srt_make _) fun x => ?_
  have h1 := both_mem (N := N) (E := revF E) (e := x)
  have h2 := both_mem (N := N) (E := E) (e := x)
  rw [h1, h2, revF_mem, revF_mem]
  have : flip (flip x) = x := rfl
  rw [this]
  exact Or.comm
theorem rea_one {N : Nat} {E : List (Int × Int)} {v u : Nat} (hu : u < N) : decide ((u : Int) ∈ reaK N E [(v : Int)] N) = rch N E v u := by
  have : ((u : Int) ∈ reaK N E [(v : Int)] N) ↔ rch N E v u = true := by
    unfold reaK
    rw [mem_cast]
    have hi : ∀ w : Nat, isR N E [(v : Int)] w = rch N E v w := fun w => by
      unfold isR rch
      rw [isSome_dz]; simp
    constructor
    · rintro ⟨w, h1, h2, h3⟩
      have : w = u := by omega
      subst this
      rw [← hi]; exact h2
    · intro h; exact ⟨u, hu, by rw [hi]; exact h, rfl⟩
  rw [Bool.eq_iff_iff, decide_eq_true_eq]
  exact this
theorem mirror_row {N : Nat} {E : List (Int × Int)} {v u : Nat} (hv : v < N) (hu : u < N) : decide ((u : Int) ∈ reaK N E [(v : Int)] N) = decide ((v : Int) ∈ reaK N (revF E) [(u : Int)] N) := by
  rw [rea_one hu, rea_one hv, rchFlip]
end Go.Proofs.YtbcjdjlihhlkaaaDoor
namespace Go.Proofs.YtbcjdjlihhlkaaaDoor
open Go Go.RowKit Go.Dw
def clsT (N : Nat) (E : List (Int × Int)) (a b : Nat) : List Int := ((List.range b).filter (eqv N E a)).map fun v : Nat => (v : Int)
theorem clsT_succ (N : Nat) (E : List (Int × Int)) (a b : Nat) : clsT N E a (b + 1) = if eqv N E a b then clsT N E a b ++ [(b : Int)] else clsT N E a b := by
  unfold clsT
  rw [List.range_succ, List.filter_append, List.map_append]
  by_cases h : eqv N E a b <;> simp [h]
theorem clsT_len (N : Nat) (E : List (Int × Int)) (a b : Nat) : (clsT N E a b).length ≤ b := by
  unfold clsT; rw [List.length_map]; exact Nat.le_trans (List.length_filter_le _ _) (by simp)
theorem clsT_end (N : Nat) (E : List (Int × Int)) (a : Nat) : clsT N E a N = cls N E a := rfl
theorem eqv_dz {N : Nat} {E : List (Int × Int)} {a b : Nat} : eqv N E a b = (decide (0 ≤ dz (dst N E a b)) && decide (0 ≤ dz (dst N E b a))) := by
  unfold eqv rch; rw [isSome_dz, isSome_dz]
theorem head_le {L : List Int} (h : L.Pairwise (· < ·)) {x : Int} (hx : x ∈ L) : ∃ h : 0 < L.length, L[0] ≤ x := by
  obtain ⟨i, hi, rfl⟩ := List.getElem_of_mem hx
  refine ⟨by omega, ?_⟩
  by_cases h0 : i = 0
  · subst h0; exact Int.le_refl _
  · exact Int.le_of_lt (List.pairwise_iff_getElem.1 h 0 i (by omega) hi (by omega))
theorem cls_self {N : Nat} {E : List (Int × Int)} (hG : Gr N E) {a : Nat} (ha : a < N) : (a : Int) ∈ cls N E a := mem_cast.2 ⟨a, ha, eqv_refl hG ha, rfl⟩
theorem cls_head {N : Nat} {E : List (Int × Int)} (hG : Gr N E) {a : Nat} (ha : a < N) : ∃ h : 0 < (cls N E a).length, ((cls N E a)[0] = a ↔ isLeast N E a = true) := by
  obtain ⟨h, hle⟩ := head_le (cast_asc N _) (cls_self hG ha)
  refine ⟨h, fun he => ?_, fun hl => ?_⟩
  · unfold isLeast
    rw [List.all_eq_true]
    intro j hj
    have hj := List.mem_range.1 hj
    cases hm : eqv N E j a with
    | false => rfl
    | true =>
      obtain ⟨h2, h3⟩ := head_le (cast_asc N _) (show (j : Int) ∈ cls N E a from mem_cast.2 ⟨j, by omega, by rw [eqv_symm]; exact hm, rfl⟩)
      have h4 : (cls N E a)[0] ≤ j := h3
      omega
  · obtain ⟨v, _, hm, hv⟩ := mem_cast.1 (show (cls N E a)[0] ∈ cls N E a from List.getElem_mem h)
    have := least_eqv hl hm
    have hle : (cls N E a)[0] ≤ a := hle
    omega
def compK (N : Nat) (E : List (Int × Int)) (k : Nat) : List (List Int) := (reps N E k).map (cls N E)
theorem compK_succ (N : Nat) (E : List (Int × Int)) (k : Nat) : compK N E (k + 1) = if isLeast N E k then compK N E k ++ [cls N E k] else compK N E k := by
  unfold compK
  rw [reps_succ, List.map_append]
  by_cases h : isLeast N E k = true <;> simp [h]
theorem compK_len (N : Nat) (E : List (Int × Int)) (k : Nat) : (compK N E k).length ≤ k := by unfold compK; rw [List.length_map]; exact reps_len N E k
theorem compK_end (N : Nat) (E : List (Int × Int)) : compK N E N = compF N E := rfl
theorem reps_nodup {N : Nat} {E : List (Int × Int)} {k : Nat} : (reps N E k).Pairwise (· < ·) := List.Pairwise.filter _ (pw_range k)
/-- a node stands in just the class that its place names -/
theorem mem_comp {N : Nat} {E : List (Int × Int)} (hG : Gr N E) {i : Nat} (hi : i < (compF N E).length) {v : Nat} (hv : v < N) : (v : Int) ∈ (compF N E)[i] ↔ ofv N E v = i := by
  have hi' : i < (reps N E N).length := by rw [← comp_len]; exact hi
  have hget : (compF N E)[i] = cls N E (reps N E N)[i] := by simp [compF]
  have hr := reps_lt (List.getElem_mem hi')
  obtain ⟨k, h1, h2, h3⟩ := of_get hG hv
  have hk := reps_lt (List.getElem_mem h2)
  rw [hget]
  have hm : (v : Int) ∈ cls N E (reps N E N)[i] ↔ eqv N E (reps N E N)[i] v = true := by
    unfold cls
    rw [mem_cast]
    constructor
    · rintro ⟨w, _, h, e⟩
      have : v = w := by omega
      rw [this]; exact h
    · intro h; exact ⟨v, hv, h, rfl⟩
  rw [hm, h1]
  constructor
  · intro h
    have he := eqv_trans hG hr.1 hv hk.1 h (by rw [eqv_symm]; exact h3)
    have a1 := least_eqv hr.2 he
    have a2 := least_eqv hk.2 (by rw [eqv_symm]; exact he)
    have pw := List.pairwise_iff_getElem.1 (reps_nodup (N := N) (E := E) (k := N))
    have : i = k := by
      rcases Nat.lt_trichotomy i k with h | h | h
      · have := pw i k hi' h2 h; omega
      · exact h
      · have := pw k i h2 hi' h; omega
    omega
  · intro h
    have : k = i := by omega
    subst this; exact h3
theorem comp_rng {N : Nat} {E : List (Int × Int)} {i : Nat} (hi : i < (compF N E).length) {x : Int} (hx : x ∈ (compF N E)[i]) : 0 ≤ x ∧ x < N := by
  have hget : (compF N E)[i] = cls N E ((reps N E N)[i]'(by rw [← comp_len]; exact hi)) := by simp [compF]
  rw [hget] at hx
  obtain ⟨v, h1, _, rfl⟩ := mem_cast.1 hx
  omega
/-- the places once the classes before the i-th one are written, and k nodes of this one -/
def ofS (N : Nat) (E : List (Int × Int)) (i k : Nat) : List Int := (List.range N).map fun v : Nat => if ofv N E v < i ∨ (v : Int) ∈ ((compF N E).getD i []).take k then ofv N E v else 0
theorem ofS_zero {N : Nat} {E : List (Int × Int)} (hG : Gr N E) : ofS N E 0 0 = List.replicate N 0 := by
  apply List.ext_getElem
  · simp [ofS]
  · intro i h1 h2
    have hi : i < N := by simpa using h2
    have := ofv_rng hG (x := (i : Int)) (by omega)
    simp only [ofS, List.getElem_map, List.getElem_range, List.getElem_replicate, List.take_zero, List.not_mem_nil, or_false]
    rw [if_neg (by omega)]
theorem ofS_step {N : Nat} {E : List (Int × Int)} (hG : Gr N E) {i k x : Nat} (hi : i < (compF N E).length) (hk : k < ((compF N E)[i]).length) (hx : ((compF N E)[i])[k] = x) : (ofS N E i k).set x i = ofS N E i (k + 1) := by
  unfold ofS
  rw [range_set]
  have hg : (compF N E).getD i [] = (compF N E)[i] := by simp [List.getD, hi]
  rw [hg]
  refine List.map_congr_left fun v hv => ?_
  have hvN := List.mem_range.1 hv
  rw [List.take_succ_eq_append_getElem hk, hx]
  by_cases h : v = x
  · subst h
    have hm : (v : Int) ∈ (compF N E)[i] := by rw [← hx]; exact List.getElem_mem hk
    rw [if_pos rfl, if_pos (.inr (by simp)), (mem_comp hG hi hvN).1 hm]
  · rw [if_neg h]
    have : ((v : Int) ∈ ((compF N E)[i]).take k ++ [(x : Int)]) ↔ (v : Int) ∈ ((compF N E)[i]).take k := by
      simp only [List.mem_append, List.mem_singleton]
      constructor
      · rintro (h2 | h2)
        · exact h2
        · omega
      · exact .inl
    simp only [this]
theorem ofS_next {N : Nat} {E : List (Int × Int)} (hG : Gr N E) {i : Nat} (hi : i < (compF N E).length) : ofS N E i ((compF N E)[i]).length = ofS N E (i + 1) 0 := by
  unfold ofS
  have hg : (compF N E).getD i [] = (compF N E)[i] := by simp [List.getD, hi]
  rw [hg]
  refine List.map_congr_left fun v hv => ?_
  have hvN := List.mem_range.1 hv
  rw [List.take_length, List.take_zero]
  have := mem_comp hG hi hvN
  by_cases h : ofv N E v < (i + 1 : Nat)
  · rw [if_pos, if_pos (.inl h)]
    by_cases h2 : ofv N E v < i
    · exact .inl h2
    · exact .inr (this.2 (by omega))
  · rw [if_neg, if_neg (by simp only [List.not_mem_nil, or_false]; exact h)]
    rintro (h2 | h2)
    · omega
    · have := this.1 h2; omega
theorem ofS_end {N : Nat} {E : List (Int × Int)} (hG : Gr N E) : ofS N E (compF N E).length 0 = ofF N E := by
  apply List.ext_getElem
  · simp [ofS, ofF]
  · intro i h1 h2
    have hi : i < N := by simpa [ofF] using h2
    have := ofv_rng hG (x := (i : Int)) (by omega)
    simp only [ofS, List.getElem_map, List.getElem_range]
    rw [if_pos (.inl this.2)]
    unfold ofv
    simp [List.getD, h2]
theorem closed_cast {N : Nat} {E : List (Int × Int)} (hG : Gr N E) (p : Nat → Bool) {L : List Int} (hL : L = ((List.range N).filter p).map fun v : Nat => (v : Int)) : (!E.any (leaves L)) = decide ((reaK N E L N).length = L.length) := by
  have hr : ∀ x ∈ L, 0 ≤ x ∧ x < N := fun x hx => by rw [hL] at hx; obtain ⟨v, h1, _, rfl⟩ := mem_cast.1 hx; omega
  have hin : ∀ v ∈ List.range N, p v = true → isR N E L v = true := fun v hv hb =>
    (isR_iff hG hr).2 ⟨v, by rw [hL]; exact mem_cast.2 ⟨v, List.mem_range.1 hv, hb, rfl⟩, 0, by simp [wlk]⟩
  have key := filter_len hin
  have e : (reaK N E L N).length = L.length ↔ ∀ v ∈ List.range N, isR N E L v = true → p v = true := by
    rw [← key]; unfold reaK; rw [List.length_map]
    have : L.length = ((List.range N).filter p).length := by rw [hL, List.length_map]
    rw [this]
  rw [Bool.eq_iff_iff, decide_eq_true_eq, e, Bool.not_eq_true']
  constructor
  · intro hc v hv hrr
    obtain ⟨x, hx, s, hw⟩ := (isR_iff hG hr).1 hrr
    have := wlk_closed hc hx hw
    rw [hL] at this
    obtain ⟨v', _, hb, he⟩ := mem_cast.1 this
    have : v = v' := by omega
    rw [this]; exact hb
  · intro h
    rw [List.any_eq_false]
    intro e he
    unfold leaves
    simp only [Bool.and_eq_true, decide_eq_true_eq, Bool.not_eq_true', decide_eq_false_iff_not]
    rintro ⟨h1, h2⟩
    have hr' := hG.rng _ he
    obtain ⟨v, hv⟩ : ∃ v : Nat, e.2 = v := ⟨_, (Int.toNat_of_nonneg hr'.2.2.1).symm⟩
    have := h v (List.mem_range.2 (by omega)) ((isR_iff hG hr).2 ⟨e.1, h1, 1, wlk_succ.2 ⟨e.1, by rw [← hv]; exact he, by simp [wlk]⟩⟩)
    exact h2 (by rw [hL]; exact mem_cast.2 ⟨v, by omega, this, hv⟩)
/-- a class is closed exactly if it is a sink -/
theorem sink_closed {N : Nat} {E : List (Int × Int)} (hG : Gr N E) {i : Nat} (hi : i < (compF N E).length) : decide ((reaK N E (compF N E)[i] N).length = ((compF N E)[i]).length) = isSink N E i := by
  have hget : (compF N E)[i] = cls N E ((reps N E N)[i]'(by rw [← comp_len]; exact hi)) := by simp [compF]
  rw [← closed_cast hG (fun j => eqv N E ((reps N E N)[i]'(by rw [← comp_len]; exact hi)) j) (by rw [hget]; rfl)]
  unfold isSink
  congr 1
  rw [Bool.eq_iff_iff, List.any_eq_true, List.any_eq_true]
  have key : ∀ e ∈ E, (e.1 ∈ (compF N E)[i] ↔ ofv N E e.1 = i) ∧ (e.2 ∈ (compF N E)[i] ↔ ofv N E e.2 = i) := fun e he => by
    obtain ⟨r1, r2, r3, r4⟩ := hG.rng e he
    obtain ⟨a, b⟩ := e
    obtain ⟨c, rfl⟩ : ∃ c : Nat, a = c := ⟨a.toNat, by omega⟩
    obtain ⟨d, rfl⟩ : ∃ c : Nat, b = c := ⟨b.toNat, by omega⟩
    exact ⟨mem_comp hG hi (by dsimp only at r2; omega), mem_comp hG hi (by dsimp only at r4; omega)⟩
  constructor
  · rintro ⟨e, he, h⟩
    unfold leaves at h
    simp only [Bool.and_eq_true, decide_eq_true_eq, Bool.not_eq_true', decide_eq_false_iff_not] at h
    obtain ⟨k1, k2⟩ := key e he
    have a1 := k1.1 h.1
    have a2 : ofv N E e.2 ≠ i := fun hh => h.2 (k2.2 hh)
    exact ⟨_, (cond_mem hG).2 ⟨e, he, by omega, rfl⟩, by simp [a1]⟩
  · rintro ⟨p, hp, h⟩
    obtain ⟨e, he, hne, rfl⟩ := (cond_mem hG).1 hp
    obtain ⟨k1, k2⟩ := key e he
    simp only [decide_eq_true_eq] at h
    refine ⟨e, he, ?_⟩
    unfold leaves
    simp only [Bool.and_eq_true, decide_eq_true_eq, Bool.not_eq_true', decide_eq_false_iff_not]
    exact ⟨k1.2 h, fun hh => hne (by have := k2.1 hh; omega)⟩
theorem cond_rmk {N : Nat} {E : List (Int × Int)} : rmkR (compF N E).length (condE N E E) = condR N E := by rw [← makeR_rmkR]; rfl
theorem both_rmk {N : Nat} {E : List (Int × Int)} (hG : Gr N E) (hE : Srt E) : rmkR N (E ++ (rmkR N (E.map flip)).2.1) = ((N : Int), bothE N E, 0) := by
  rw [rev_eq hG hE, ← makeR_rmkR]; exact both_make hG
end Go.Proofs.YtbcjdjlihhlkaaaDoor
