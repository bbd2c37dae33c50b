/- Contracts of the library's EqualFunc on rows of numbers, and of the graph's order, beyond and Check. -/
import Derived.Test.YtdjhgcpmipglfaaG3
namespace Go.Proofs.Ytdjhgcpmipglfaa
open Go Go.RowKit Go.Dw

theorem equalRows_spec {a a' : Option Addr} {n c n' c' : Nat} {L L' : List (List Int)} (w : World) (hL : Sl (encS (encF fI) 1) 1 (Hp.whole w) a n c L) (hL' : Sl (encS (encF fI) 1) 1 (Hp.whole w) a' n' c' L') (hn : n < 1000000000) (hb : ∀ x ∈ L, x.length < 1000000000) :
    CallsE Try.prog 96 #[.slice a n c, .slice a' n' c', .func (.func 29) #[] #[]] w (RetV w (.bool (decide (L = L')))) := by
  have hlen := hL.len
  have hlen' := hL'.len
  refine enter (X := cx 32) (cxg _) (args := [.slice a n c, .slice a' n' c', .func (.func 29) #[] #[]]) [.tmp 6] Try.func96 rfl rfl rfl rfl rfl ?_
  refine bsplitd (fun hne => ?_) (fun heq => ?_)
  · refine ⟨[], ⟨?_, rfl⟩, fun w' h => h⟩
    have : L ≠ L' := fun e => hne (by rw [hlen, hlen', e])
    simp [this]
  have hnn : n = n' := by omega
  refine NeedL.mk Nat (fun k => [(0, .v (.slice a n c)), (1, .v (.slice a' n' c')), (2, .v (.func (.func 29) #[] #[])), (15, .v (.slice a n c)), (16, .v (.int .i64 n)), (17, .v (.int .i64 k))]) (fun _ => [.hp (Hp.whole w)])
    (fun k => k ≤ n ∧ L.take k = L'.take k) (fun k => n - k) 0 ⟨Nat.zero_le _, rfl⟩ (Ent.mk (fun _ _ h => h) rfl rfl) ?_
  rintro k ⟨hk, ho⟩
  refine bsplitd (fun hlt => ?_) (fun hge => ?_)
  · have hlt' : k < L.length := by omega
    have hlt2 : k < L'.length := by omega
    refine idx (cxg _) (e := 42) rfl hL k rfl hlt' (fun b o cs hcs hR hcell => ?_)
    obtain ⟨a1, n1, c1, rfl, hs1⟩ := hR
    refine ld1 (cxg _) (i := 0) rfl (hcell 0 _ rfl) rfl ?_
    refine idx (cxg _) (e := 42) rfl hL' k rfl hlt2 (fun b o cs hcs hR hcell => ?_)
    obtain ⟨a2, n2, c2, rfl, hs2⟩ := hR
    refine ld1 (cxg _) (i := 0) rfl (hcell 0 _ rfl) rfl ?_
    have hn1 : n1 < 1000000000 := by rw [hs1.len]; exact hb _ (List.getElem_mem hlt')
    refine callV _ (fun w' hm => equalInts_spec w' (hs1.mono (encF_mono _) (hm 0 _ rfl)) (hs2.mono (encF_mono _) (hm 0 _ rfl)) hn1) ?_
    refine bsplit (fun hb => ?_) (fun hb => ?_)
    · refine ⟨[], ⟨?_, rfl⟩, fun w' h => h⟩
      have : L ≠ L' := fun e => by simp [e] at hb
      simp [this]
    · refine nw (by omega) (by omega) ?_
      exact ⟨k + 1, ⟨by omega, take_eq_step hlt' hlt2 ho (by simpa using hb)⟩, by omega, Ent.mk (fun _ _ h => h) rfl rfl⟩
  · refine ⟨[], ⟨?_, rfl⟩, fun w' h => h⟩
    have : L = L' := by
      rw [← List.take_of_length_le (show L.length ≤ k by omega), ← List.take_of_length_le (show L'.length ≤ k by omega), ho]
    simp [this]

theorem flatLen {α : Type} {f : α → List Value} {sz : Nat} (hf : ∀ x, (f x).length = sz) : ∀ L : List α, (L.flatMap f).length = L.length * sz
  | [] => by simp
  | x :: r => by rw [List.flatMap_cons, List.length_append, hf, flatLen hf r, List.length_cons, Nat.succ_mul]; omega
/-- a new variable's block, read as a slice -/
theorem Sl.box {α : Type} {f : α → List Value} {sz : Nat} (hf : ∀ x, (f x).length = sz) (h0 : 0 < sz) {b T : Nat} {cs : List Value} {w : World} (hh : (Ch.box b cs T).h.In w) (L : List α) {n : Nat} (hL : cs = L.flatMap f) (hn : n = L.length) (hl : L.length < 1000000) :
    Sl (encF f) sz (Hp.whole w) (some ⟨b, 0, none⟩) n n L := by
  subst hL hn
  have hl := flatLen hf L
  refine Sl.mono (encF_mono _) hh (OwnL.sl (T := T) hf h0 ⟨rfl, hl, .inr ⟨b, _, rfl, Hp.one_self _ _, Nat.le_refl _, by unfold maxLen; omega, by simpa using hl, ?_⟩⟩)
  exact List.take_of_length_le (Nat.le_of_eq hl)

def beyondF (n k : Int) : Bool := decide (k < 0) || decide (k ≥ n)
theorem beyond_spec (n k : Int) (w : World) : CallsE Try.prog 70 #[.int .i64 n, .int .i64 k] w (RetV w (.bool (beyondF n k))) := by
  refine enter (X := cx 12) (cxg _) (args := [.int .i64 n, .int .i64 k]) [.tmp 4] Try.func70 rfl rfl rfl rfl rfl ?_
  refine bsplitd (fun h => ?_) (fun h => ?_)
  · exact ⟨[], ⟨by simp [beyondF, h], rfl⟩, fun w' h => h⟩
  · exact ⟨[], ⟨by simp [beyondF, h], rfl⟩, fun w' h => h⟩
def orderF (a b : Int × Int) : Int := if cmpI a.1 b.1 ≠ 0 then cmpI a.1 b.1 else cmpI a.2 b.2
theorem order_spec (a b : Int × Int) (w : World) : CallsE Try.prog 72 #[.agg #[.int .i64 a.1, .int .i64 a.2], .agg #[.int .i64 b.1, .int .i64 b.2]] w (RetV w (.int .i64 (orderF a b))) := by
  refine enter (X := cx 17) (cxg _) (args := [.agg #[.int .i64 a.1, .int .i64 a.2], .agg #[.int .i64 b.1, .int .i64 b.2]]) [.tmp 4] Try.func72 rfl rfl rfl rfl rfl ?_
  intro b1 b2
  refine NeedD.by_order (cxg _) (.take 0 <| .take 1 <| .take 2 <| .take 3 <| .take 5 <| .take 6 <| .take 7 <| .take 8 <| .run 4 <| .run 9 <| .run 10 <| .run 11 <| .take 12 <| .done) (by kernel_rfl) ?_
  refine callV _ (fun w' hm => compare_spec _ _ w') ?_
  refine ⟨subL_refl _, ?_⟩
  refine callV _ (fun w' hm => compare_spec _ _ w') ?_
  refine ⟨subL_refl _, ?_⟩
  intro b3
  refine ⟨subL_app _ _, ?_⟩
  refine callV _ (fun w' hm => or_spec w' (Sl.box (f := fI) (fun _ => rfl) (by decide) (hm 3 _ rfl) [cmpI a.1 b.1, cmpI a.2 b.2] rfl rfl (by simp)) (by decide)) ?_
  refine ⟨subL_app _ _, ?_⟩
  refine ⟨[], ⟨?_, rfl⟩, fun w' h => h.pick [0] rfl rfl⟩
  by_cases h : cmpI a.1 b.1 = 0 <;> by_cases h' : cmpI a.2 b.2 = 0 <;> simp [orI, orderF, h, h']

def sortedF (E : List (Int × Int)) : Bool := (List.range (E.length - 1)).all fun i => decide (orderF (E.getD i (0, 0)) (E.getD (i + 1) (0, 0)) < 0)
def outF (N : Int) (e : Int × Int) : Bool := beyondF N e.1 || beyondF N e.2
def checkF (N : Int) (E : List (Int × Int)) : Int :=
  if N < 0 ∨ N > 64 then 2 else if (E.length : Int) > N * N then 6 else if E.any (outF N) then 2 else if sortedF E then 0 else 8
def gv (N : Int) (a : Option Addr) (n c : Nat) : Value := .agg #[.int .i64 N, .slice a n c]
theorem any_step {α : Type} {p : α → Bool} {L : List α} {k : Nat} (hk : k < L.length) (h : (L.take k).any p = false) (e : p L[k] = false) : (L.take (k + 1)).any p = false := by
  rw [List.take_succ_eq_append_getElem hk, List.any_append, h, List.any_cons, e]
  rfl
theorem any_hit {α : Type} {p : α → Bool} {L : List α} {k : Nat} (hk : k < L.length) (e : p L[k] = true) : L.any p = true := List.any_eq_true.2 ⟨_, List.getElem_mem hk, e⟩
theorem check_spec {a : Option Addr} {n c : Nat} {E : List (Int × Int)} (N : Int) (w : World) (hL : Sl (encF fE) 2 (Hp.whole w) a n c E) :
    CallsE Try.prog 21 #[gv N a n c] w (RetV w (.int .i64 (checkF N E))) := by
  have hlen := hL.len
  refine enter (X := cx 65) (cxg _) (args := [.agg #[.int .i64 N, .slice a n c]]) [.tmp 2] Try.func21 rfl rfl rfl rfl rfl ?_
  intro b
  refine bsplitd (fun h1 => ?_) (fun h1 => ?_)
  · exact ⟨[], ⟨by simp [checkF, h1], rfl⟩, fun w' h => h.pick [0] rfl rfl⟩
  refine bsplitd (fun h2 => ?_) (fun h2 => ?_)
  · exact ⟨[], ⟨by simp [checkF, h1, h2], rfl⟩, fun w' h => h.pick [0] rfl rfl⟩
  have hN : 0 ≤ N * N ∧ N * N ≤ 64 * 64 := ⟨Int.mul_nonneg (by omega) (by omega), Int.mul_le_mul (by omega) (by omega) (by omega) (by omega)⟩
  refine nw (by omega) (by omega) ?_
  refine bsplitd (fun h3 => ?_) (fun h3 => ?_)
  · exact ⟨[], ⟨by simp only [checkF]; rw [if_neg (by omega), if_pos (by omega)], rfl⟩, fun w' h => h.pick [0] rfl rfl⟩
  have hc1 : checkF N E = if E.any (outF N) then 2 else if sortedF E then 0 else 8 := by simp only [checkF]; rw [if_neg (by omega), if_neg (by omega)]
  refine NeedL.mk Nat (fun k => [(1, .bx 1 0), (26, .v (.slice a n c)), (27, .v (.int .i64 n)), (28, .v (.int .i64 k))]) (fun _ => [.hp (Hp.whole w), .box b [.int .i64 N, .slice a n c] 26])
    (fun k => k ≤ n ∧ (E.take k).any (outF N) = false) (fun k => n - k) 0 ⟨Nat.zero_le _, rfl⟩ (Ent.mk (fun _ _ h => h) rfl rfl) ?_
  rintro k ⟨hk, ho⟩
  refine bsplitd (fun hlt => ?_) (fun hge => ?_)
  · have hlt' : k < E.length := by omega
    refine idx (cxg _) (e := 32) rfl hL k rfl hlt' (fun b o cs hcs hR hcell => ?_)
    subst hR
    refine ldn (cxg _) (i := 0) rfl hcell rfl ?_
    intro b2
    refine callV _ (fun w' _ => beyond_spec _ _ w') ?_
    refine bsplit (fun h4 => ?_) (fun h4 => ?_)
    · exact ⟨[], ⟨by rw [hc1, any_hit hlt' (by simp [outF, h4])]; rfl, rfl⟩, fun w' h => h.pick [0] rfl rfl⟩
    refine callV _ (fun w' _ => beyond_spec _ _ w') ?_
    refine bsplit (fun h5 => ?_) (fun h5 => ?_)
    · exact ⟨[], ⟨by rw [hc1, any_hit hlt' (by simp [outF, h5])]; rfl, rfl⟩, fun w' h => h.pick [0] rfl rfl⟩
    refine nw (by omega) (by omega) ?_
    exact ⟨k + 1, ⟨by omega, any_step hlt' ho (by simp [outF, h4, h5])⟩, by omega, Ent.mk (fun _ _ h => h.pick [0, 1] rfl rfl) rfl rfl⟩
  rw [List.take_of_length_le (by omega)] at ho
  rw [ho] at hc1
  refine NeedL.mk Nat (fun k => [(1, .bx 1 0), (5, .v (.int .i64 (k + 1 : Nat)))]) (fun _ => [.hp (Hp.whole w), .box b [.int .i64 N, .slice a n c] 26])
    (fun k => k ≤ n ∧ ((List.range k).all fun i => decide (orderF (E.getD i (0, 0)) (E.getD (i + 1) (0, 0)) < 0)) = true) (fun k => n - k) 0 ⟨Nat.zero_le _, rfl⟩ (Ent.mk (fun _ _ h => h) rfl rfl) ?_
  rintro k ⟨hk, ho⟩
  refine bsplitd (fun hlt => ?_) (fun hge => ?_)
  · have hlt' : k + 1 < E.length := by omega
    refine NeedD.by_order (cxg _) (.take 0 <| .take 1 <| .take 2 <| .take 3 <| .take 4 <| .take 5 <| .take 6 <| .take 7 <| .take 8 <| .take 9 <| .take 10 <| .run 11 <| .take 12 <| .done) (by kernel_rfl) ?_
    refine nw (by omega) (by omega) ?_
    refine idx (cxg _) (e := 32) rfl hL k (by omega) (by omega) (fun b o cs hcs hR hcell => ?_)
    subst hR
    refine ldn (cxg _) (i := 0) rfl hcell rfl ?_
    refine idx (cxg _) (e := 32) rfl hL (k + 1) rfl (by omega) (fun b o cs hcs hR hcell => ?_)
    subst hR
    refine ldn (cxg _) (i := 0) rfl hcell rfl ?_
    refine callV _ (fun w' _ => order_spec _ _ w') ?_
    refine ⟨subL_refl _, ?_⟩
    have hg1 : E.getD k (0, 0) = E[k] := by simp [List.getD, show k < E.length by omega]
    have hg2 : E.getD (k + 1) (0, 0) = E[k + 1] := by simp [List.getD, show k + 1 < E.length by omega]
    refine bsplitd (fun h6 => ?_) (fun h6 => ?_)
    · refine ⟨[], ⟨?_, rfl⟩, fun w' h => h.pick [0] rfl rfl⟩
      have : sortedF E = false := by
        rw [sortedF, List.all_eq_false]
        exact ⟨k, by simp; omega, by rw [hg1, hg2]; simp; omega⟩
      rw [hc1, this]; rfl
    · refine nw (by omega) (by omega) ?_
      refine ⟨k + 1, ⟨by omega, ?_⟩, by omega, Ent.mk (fun _ _ h => h) rfl rfl⟩
      rw [List.range_succ, List.all_append, ho, List.all_cons, hg1, hg2]
      simp; omega
  · refine ⟨[], ⟨?_, rfl⟩, fun w' h => h.pick [0] rfl rfl⟩
    have : sortedF E = true := by
      rw [sortedF, List.all_eq_true]
      intro i hi
      exact List.all_eq_true.1 ho i (by simp at hi ⊢; omega)
    rw [hc1, this]; rfl
end Go.Proofs.Ytdjhgcpmipglfaa
