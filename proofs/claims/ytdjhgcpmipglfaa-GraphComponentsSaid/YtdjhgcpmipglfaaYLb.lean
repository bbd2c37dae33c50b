/- Contracts of BinarySearch, of the graph's Induced, of the reference's Nodes, Reverse, Induced. Their premises are their own. -/
import Derived.Test.YtdjhgcpmipglfaaYP4
namespace Go.Dw
open Go Go.RowKit
theorem nwU {x : Int} {q : Int → Prop} (h1 : 0 ≤ x) (h2 : x ≤ 18446744073709551615) (hq : q x) : NeedW .u64 x q := by
  refine ⟨x, ?_, hq⟩
  rw [IntKind.wrap_u64]; omega
theorem qShr64 {P : Program} {s : List Ch} {ty : Nat} {x : Int} {q : TV → Prop} (h : q (.v (.int .u64 (x / 2)))) : NeedQ P s (binOp .shr ty (.int .u64 x) (.int .u64 1)) q := by
  refine ⟨_, fun w _ => ?_, h⟩
  have : x.fdiv 2 = x / 2 := Int.fdiv_eq_ediv_of_nonneg _ (by decide)
  simp [binOp, Op.shift, IntKind.bits, this]
end Go.Dw
namespace Go.Proofs.Ytdjhgcpmipglfaa
open Go Go.RowKit Go.Dw
/-- how many are less -/
def lbN (L : List Int) (x : Int) : Nat := (L.filter fun y => decide (y < x)).length
theorem lbN_at {L : List Int} {x : Int} {i : Nat} (hi : i ≤ L.length) (h1 : ∀ t (h : t < L.length), t < i → L[t] < x) (h2 : ∀ t (h : t < L.length), i ≤ t → x ≤ L[t]) : lbN L x = i := by
  unfold lbN
  rw [← List.take_append_drop i L, List.filter_append, List.length_append]
  have e1 : (L.take i).filter (fun y => decide (y < x)) = L.take i := List.filter_eq_self.2 fun y hy => by
    obtain ⟨t, ht, rfl⟩ := List.getElem_of_mem hy
    rw [List.length_take] at ht
    rw [List.getElem_take, decide_eq_true_eq]
    exact h1 t (by omega) (by omega)
  have e2 : (L.drop i).filter (fun y => decide (y < x)) = [] := List.filter_eq_nil_iff.2 fun y hy => by
    obtain ⟨t, ht, rfl⟩ := List.getElem_of_mem hy
    rw [List.length_drop] at ht
    rw [List.getElem_drop, decide_eq_true_eq]
    have := h2 (i + t) (by omega) (by omega)
    omega
  rw [e1, e2, List.length_take]
  simp; omega
theorem bsearch_spec {a : Option Addr} {n c : Nat} {L : List Int} (x : Int) (w : World) (hL : Sl (encF fI) 1 (Hp.whole w) a n c L) (hs : L.Pairwise (· < ·)) (hl : L.length < 1000000) :
    CallsE Try.prog 98 #[.slice a n c, .int .i64 x] w (RetV w (.tuple #[.int .i64 (lbN L x), .bool (decide (x ∈ L))])) := by
  have hlen := hL.len
  have mono : ∀ s t (h1 : s < L.length) (h2 : t < L.length), s < t → L[s] < L[t] := fun s t h1 h2 h => List.pairwise_iff_getElem.1 hs s t h1 h2 h
  refine enter (X := cx 54) (cxg _) (args := [.slice a n c, .int .i64 x]) [.tmp 4, .tmp 5] Try.func98 rfl rfl rfl rfl rfl ?_
  refine NeedL.mk (Nat × Nat) (fun g => [(0, .v (.slice a n c)), (1, .v (.int .i64 x)), (6, .v (.int .i64 n)), (7, .v (.int .i64 g.1)), (8, .v (.int .i64 g.2))]) (fun _ => [.hp (Hp.whole w)])
    (fun g => g.1 ≤ g.2 ∧ g.2 ≤ n ∧ (∀ t (h : t < L.length), t < g.1 → L[t] < x) ∧ (∀ t (h : t < L.length), g.2 ≤ t → x ≤ L[t])) (fun g => g.2 - g.1) (0, n) ⟨Nat.zero_le _, Nat.le_refl _, fun _ _ h => absurd h (Nat.not_lt_zero _), fun t h h' => by dsimp only at h'; omega⟩ (Ent.mk (fun _ _ h => h) rfl rfl) ?_
  rintro ⟨i, j⟩ ⟨hij, hj, h1, h2⟩
  dsimp only at *
  refine bsplitd (fun hlt => ?_) (fun hge => ?_)
  · obtain ⟨m, hm⟩ : ∃ m : Nat, ((i : Int) + j) / 2 = m := ⟨(i + j) / 2, by omega⟩
    have hm1 : i ≤ m ∧ m < j := by omega
    refine nw (by omega) (by omega) ?_
    refine nwU (by omega) (by omega) ?_
    refine qShr64 ?_
    refine nw (by omega) (by omega) ?_
    refine hideQ (fun _ h => h _ _ ?_)
    refine hideQ (fun q' hq' => ?_)
    have hml : m < L.length := by omega
    refine idx (cxg _) (e := 3) rfl hL m hm hml (fun b o cs hcs hR hcell => ?_)
    subst hR
    refine ld1 (cxg _) (i := 0) rfl (hcell 0 _ rfl) rfl ?_
    refine callV _ (fun w' _ => less_spec _ _ w') ?_
    refine hq' _ _ ?_
    refine bsplitd (fun hc => ?_) (fun hc => ?_)
    · refine nw (by omega) (by omega) ?_
      refine ⟨(m + 1, j), ⟨by dsimp only; omega, hj, fun t h h' => ?_, h2⟩, by dsimp only; omega, Ent.mk (fun _ _ h => h) (by rw [hm]; rfl) rfl⟩
      dsimp only at h'
      by_cases he : t = m
      · subst he; exact hc
      · have := mono t m h hml (by omega); omega
    · refine ⟨(i, m), ⟨by dsimp only; omega, by dsimp only; omega, h1, fun t h h' => ?_⟩, by dsimp only; omega, Ent.mk (fun _ _ h => h) (by rw [hm]; rfl) rfl⟩
      dsimp only at h'
      by_cases he : t = m
      · subst he; omega
      · have := mono m t hml h (by omega); omega
  · obtain rfl : i = j := by omega
    have hlb : lbN L x = i := lbN_at (by omega) h1 h2
    refine hideQ (fun q' hq' => ?_)
    refine bsplitd (fun hin => ?_) (fun hout => ?_)
    · have hil : i < L.length := by omega
      refine idx (cxg _) (e := 3) rfl hL i rfl hil (fun b o cs hcs hR hcell => ?_)
      subst hR
      refine ld1 (cxg _) (i := 0) rfl (hcell 0 _ rfl) rfl ?_
      refine bsplitd (fun he => ?_) (fun he => ?_)
      · refine hq' _ _ ?_
        exact ⟨[], ⟨by rw [hlb, decide_eq_true (show x ∈ L from he ▸ List.getElem_mem hil)], rfl⟩, fun w' h => h⟩
      · refine idx (cxg _) (e := 3) rfl hL i rfl hil (fun b o cs hcs hR hcell => ?_)
        subst hR
        refine ld1 (cxg _) (i := 0) rfl (hcell 0 _ rfl) rfl ?_
        refine callV _ (fun w' _ => isNaN'_spec _ w') ?_
        refine hq' _ _ ?_
        have hno : x ∉ L := fun hx => by
          obtain ⟨t, ht, rfl⟩ := List.getElem_of_mem hx
          by_cases hti : t < i
          · have := h1 t ht hti; omega
          · by_cases hte : t = i
            · subst hte; exact he rfl
            · have := mono i t hil ht (by omega); have := h2 i hil (Nat.le_refl _); omega
        exact ⟨[], ⟨by rw [hlb, decide_eq_false hno], rfl⟩, fun w' h => h⟩
    · refine hq' _ _ ?_
      have hno : x ∉ L := fun hx => by
        obtain ⟨t, ht, rfl⟩ := List.getElem_of_mem hx
        have := h1 t ht (by omega); omega
      exact ⟨[], ⟨by rw [hlb, decide_eq_false hno], rfl⟩, fun w' h => h⟩
/-! ### Induced -/
theorem asc_pw {L : List Int} (h : ascF L = true) : L.Pairwise (· < ·) := by
  unfold ascF at h
  rw [List.all_eq_true] at h
  have adj : ∀ i (hi : i + 1 < L.length), L[i] < L[i + 1] := fun i hi => by
    have := h i (List.mem_range.2 (by omega))
    have e1 : L.getD i 0 = L[i] := by simp [List.getD, show i < L.length by omega]
    have e2 : L.getD (i + 1) 0 = L[i + 1] := by simp [List.getD, hi]
    rw [decide_eq_true_eq, e1, e2] at this
    exact this
  have all : ∀ d i (hi : i + 1 + d < L.length), L[i] < L[i + 1 + d] := fun d => by
    induction d with
    | zero => intro i hi; exact adj i hi
    | succ d ih => intro i hi; exact Int.lt_trans (ih i (by omega)) (adj (i + 1 + d) hi)
  refine List.pairwise_iff_getElem.2 fun i j hi hj hij => ?_
  have := all (j - i - 1) i (by omega)
  have e : i + 1 + (j - i - 1) = j := by omega
  simp only [e] at this
  exact this
def inL (L : List Int) (e : Int × Int) : Bool := decide (e.1 ∈ L) && decide (e.2 ∈ L)
def indF (E : List (Int × Int)) (L : List Int) : List (Int × Int) := (E.filter (inL L)).map fun e => ((lbN L e.1 : Int), (lbN L e.2 : Int))
theorem indF_step {E : List (Int × Int)} {L : List Int} {k : Nat} (hk : k < E.length) : indF (E.take (k + 1)) L = if inL L E[k] then indF (E.take k) L ++ [((lbN L E[k].1 : Int), (lbN L E[k].2 : Int))] else indF (E.take k) L := by
  unfold indF
  rw [List.take_succ_eq_append_getElem hk, List.filter_append, List.map_append]
  by_cases h : inL L E[k] <;> simp [h]
theorem indF_len (E : List (Int × Int)) (L : List Int) : (indF E L).length ≤ E.length := by
  unfold indF; rw [List.length_map]; exact List.length_filter_le _ _
def indR (N : Int) (E : List (Int × Int)) (L : List Int) : Int × List (Int × Int) × Int := if readyF N E L = 0 then (L.length, indF E L, 0) else (0, [], readyF N E L)
set_option maxRecDepth 10000 in
theorem Induced_spec {a a1 : Option Addr} {n c n1 c1 : Nat} {E : List (Int × Int)} {L : List Int} (N : Int) (w : World) (hL : Sl (encF fE) 2 (Hp.whole w) a n c E) (hM : Sl (encF fI) 1 (Hp.whole w) a1 n1 c1 L) (hl : L.length < 1000000) :
    CallsE Try.prog 54 #[gv N a n c, .slice a1 n1 c1] w (RetG w (indR N E L)) := by
  have hlen := hL.len
  have hml := hM.len
  refine enter (X := cx 59) (cxg _) (args := [.agg #[.int .i64 N, .slice a n c], .slice a1 n1 c1]) [.cell 4 26, .tmp 5] Try.func54 rfl rfl rfl rfl rfl ?_
  intro b1 b2
  refine callV _ (fun w' hm => ready_spec N w' (hL.mono (encF_mono _) (hm 0 _ rfl)) (hM.mono (encF_mono _) (hm 0 _ rfl)) (by omega)) ?_
  refine bsplitd (fun h => ?_) (fun h => ?_)
  · refine ⟨[.hp Hp.emp], ⟨Os.nil, ?_, rfl, ?_⟩, fun w' h => (h.pick [0] rfl rfl).emp⟩
    · unfold indR; rw [if_neg h]; rfl
    · unfold indR; rw [if_neg h]; exact OwnO.nil _ _ _
  have h0 : readyF N E L = 0 := Decidable.not_not.1 h
  obtain ⟨M, rfl, hG, _, hr, hasc⟩ := ready_ok h0
  have hpw := asc_pw hasc
  have hEl := hG.len
  have er : indR M E L = ((L.length : Int), indF E L, 0) := by unfold indR; rw [if_pos h0]
  intro b3
  refine NeedL.mk (Nat × Dw.Os) (fun g => [(1, .v (.slice a1 n1 c1)), (4, .bx 1 0), (7, .bx 2 0), (25, .v (.slice a n c)), (26, .v (.int .i64 n)), (27, .v (.int .i64 g.1))])
    (fun g => [.hp (Hp.whole w), .box b2 [.int .i64 0, .slice none 0 0] 26, .box b3 [.int .i64 n1, g.2.v] 26, .hp g.2.h])
    (fun g => g.1 ≤ n ∧ OwnO fE 32 2 g.2 (indF (E.take g.1) L)) (fun g => n - g.1) (0, Os.nil) ⟨Nat.zero_le _, OwnO.nil _ _ _⟩ (Ent.mk (fun _ _ h => (h.pick [0, 2, 3] rfl rfl).emp) rfl rfl) ?_
  rintro ⟨k, o⟩ ⟨hk, ho⟩
  dsimp only at *
  refine bsplitd (fun hlt => ?_) (fun hge => ?_)
  · have hk' : k < E.length := by omega
    have st := indF_step (L := L) hk'
    have il := indF_len (E.take k) L
    have tl : (E.take k).length ≤ k := by rw [List.length_take]; omega
    have hb1 := fun (w' : World) (hm : (Hp.whole w).In w') => bsearch_spec (E[k]'hk').1 w' (hM.mono (encF_mono _) hm) hpw hl
    have hb2 := fun (w' : World) (hm : (Hp.whole w).In w') => bsearch_spec (E[k]'hk').2 w' (hM.mono (encF_mono _) hm) hpw hl
    refine idx (cxg _) (e := 32) rfl hL k rfl hk' (fun b o9 cs hcs hR hcell => ?_)
    subst hR
    refine ldn (cxg _) (i := 0) rfl hcell rfl ?_
    intro b9
    refine callV _ (fun w' hm => hb1 w' (hm 0 _ rfl)) ?_
    refine callV _ (fun w' hm => hb2 w' (hm 0 _ rfl)) ?_
    refine bsplitd (fun h1 => ?_) (fun h1 => ?_)
    · refine bsplitd (fun h2 => ?_) (fun h2 => ?_)
      · have hin : inL L E[k] = true := by unfold inL; rw [decide_eq_true h1, decide_eq_true h2]; rfl
        rw [if_pos hin] at st
        intro b5
        refine appO (cxg _) (e := 32) rfl (i := 3) rfl ho (j := 5) ((lbN L E[k].1 : Int), (lbN L E[k].2 : Int)) rfl rfl rfl rfl (by omega) (fun o' ho' => ?_)
        refine nw (by omega) (by omega) ?_
        exact ⟨(k + 1, o'), ⟨by dsimp only; omega, by dsimp only; rw [st]; exact ho'⟩, by dsimp only; omega, Ent.mk (fun _ _ h => h.pick [0, 1, 2, 3] rfl rfl) rfl rfl⟩
      · rw [if_neg (by unfold inL; rw [decide_eq_false h2, Bool.and_false]; exact Bool.false_ne_true)] at st
        refine nw (by omega) (by omega) ?_
        exact ⟨(k + 1, o), ⟨by dsimp only; omega, by dsimp only; rw [st]; exact ho⟩, by dsimp only; omega, Ent.mk (fun _ _ h => h.pick [0, 1, 2, 3] rfl rfl) rfl rfl⟩
    · rw [if_neg (by unfold inL; rw [decide_eq_false h1, Bool.false_and]; exact Bool.false_ne_true)] at st
      refine nw (by omega) (by omega) ?_
      exact ⟨(k + 1, o), ⟨by dsimp only; omega, by dsimp only; rw [st]; exact ho⟩, by dsimp only; omega, Ent.mk (fun _ _ h => h.pick [0, 1, 2, 3] rfl rfl) rfl rfl⟩
  · rw [List.take_of_length_le (by omega)] at ho
    exact ⟨[.hp o.h], ⟨o, by rw [er, ← hml], rfl, by rw [er]; exact ho⟩, fun w' h => h.pick [0, 3] rfl rfl⟩
end Go.Proofs.Ytdjhgcpmipglfaa
