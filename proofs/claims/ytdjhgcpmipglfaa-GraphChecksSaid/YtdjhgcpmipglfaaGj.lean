/- Contracts of the graph's ready, single, tree, Tree. Their premises are their own. -/
import Derived.Test.YtdjhgcpmipglfaaGi
namespace Go.Proofs.Ytdjhgcpmipglfaa
open Go Go.RowKit Go.Dw

theorem ready1_spec (k : Int) (b : Nat) (N : Int) (w : World) (hp : w.cell? ⟨b, 0, none⟩ = some (.int .i64 N)) :
    CallsE Try.prog 108 #[.int .i64 k, .pointer (some ⟨b, 0, none⟩)] w (RetV w (.bool (beyondF N k))) := by
  refine enter (X := cx 8) (cxg _) (args := [.int .i64 k, .pointer (some ⟨b, 0, none⟩)]) [.tmp 3] Try.func108 rfl rfl rfl rfl rfl ?_
  refine ld1 (cxg _) (i := 0) rfl (h := Hp.whole w) hp rfl ?_
  refine callV _ (fun w' _ => beyond_spec _ _ w') ?_
  exact ⟨[], ⟨rfl, rfl⟩, fun w' h => h⟩
def ascF (L : List Int) : Bool := (List.range (L.length - 1)).all fun i => decide (L.getD i 0 < L.getD (i + 1) 0)
def readyF (N : Int) (E : List (Int × Int)) (L : List Int) : Int := if checkF N E ≠ 0 then checkF N E else if L.any (beyondF N) then 2 else if ascF L then 0 else 8
theorem ready_spec {a a1 : Option Addr} {n c n1 c1 : Nat} {E : List (Int × Int)} {L : List Int} (N : Int) (w : World) (hL : Sl (encF fE) 2 (Hp.whole w) a n c E) (hM : Sl (encF fI) 1 (Hp.whole w) a1 n1 c1 L) (hl : L.length < 1000000000) :
    CallsE Try.prog 86 #[gv N a n c, .slice a1 n1 c1] w (RetV w (.int .i64 (readyF N E L))) := by
  have hlen := hM.len
  refine enter (X := cx 31) (cxg _) (args := [.agg #[.int .i64 N, .slice a n c], .slice a1 n1 c1]) [.tmp 4] Try.func86 rfl rfl rfl rfl rfl ?_
  intro b1
  refine callV _ (fun w' hm => check_spec N w' (hL.mono (encF_mono _) (hm 0 _ rfl))) ?_
  refine bsplitd (fun h => ?_) (fun h => ?_)
  · exact ⟨[], ⟨by unfold readyF; rw [if_pos h], rfl⟩, fun w' h => h.pick [0] rfl rfl⟩
  have hr : readyF N E L = if L.any (beyondF N) then 2 else if ascF L then 0 else 8 := by unfold readyF; rw [if_neg h]
  refine callV _ (fun w' hm => containsFuncInts_spec 108 (.pointer (some ⟨b1, 0, none⟩)) (beyondF N) w' (hM.mono (encF_mono _) (hm 0 _ rfl)) (by omega) (fun w2 h2 x _ => ready1_spec x b1 N w2 ?_)) ?_
  · refine h2.cell (Hp.le.cell (hm 1 _ rfl) ?_)
    simp [Ch.h, Hp.cell?, Hp.one]
  refine bsplit (fun hb => ?_) (fun hb => ?_)
  · exact ⟨[], ⟨by rw [hr, if_pos hb], rfl⟩, fun w' h => h.pick [0] rfl rfl⟩
  rw [hb] at hr
  refine NeedL.mk Nat (fun k => [(1, .v (.slice a1 n1 c1)), (6, .v (.int .i64 (k + 1 : Nat)))]) (fun _ => [.hp (Hp.whole w)])
    (fun k => k ≤ n1 ∧ ((List.range k).all fun i => decide (L.getD i 0 < L.getD (i + 1) 0)) = true) (fun k => n1 - k) 0 ⟨Nat.zero_le _, rfl⟩ (Ent.mk (fun _ _ h => h.pick [0] rfl rfl) rfl rfl) ?_
  rintro k ⟨hk, ho⟩
  refine bsplitd (fun hlt => ?_) (fun hge => ?_)
  · have hlt' : k + 1 < L.length := by omega
    refine NeedD.by_order (cxg _) (.take 0 <| .take 1 <| .take 2 <| .take 3 <| .take 4 <| .take 5 <| .take 6 <| .take 7 <| .take 8 <| .take 9 <| .done) (by kernel_rfl) ?_
    refine idx (cxg _) (e := 3) rfl hM (k + 1) rfl (by omega) (fun b o cs hcs hR hcell => ?_)
    subst hR
    refine ld1 (cxg _) (i := 0) rfl (hcell 0 _ rfl) rfl ?_
    refine nw (by omega) (by omega) ?_
    refine idx (cxg _) (e := 3) rfl hM k (by omega) (by omega) (fun b o cs hcs hR hcell => ?_)
    subst hR
    refine ld1 (cxg _) (i := 0) rfl (hcell 0 _ rfl) rfl ?_
    have hg1 : L.getD k 0 = L[k] := by simp [List.getD, show k < L.length by omega]
    have hg2 : L.getD (k + 1) 0 = L[k + 1] := by simp [List.getD, show k + 1 < L.length by omega]
    refine bsplitd (fun h6 => ?_) (fun h6 => ?_)
    · refine ⟨[], ⟨?_, rfl⟩, fun w' h => h.pick [0] rfl rfl⟩
      have : ascF L = false := by
        rw [ascF, List.all_eq_false]
        exact ⟨k, by simp; omega, by rw [hg1, hg2]; simp; omega⟩
      rw [hr, this]; rfl
    · refine nw (by omega) (by omega) ?_
      refine ⟨k + 1, ⟨by omega, ?_⟩, by omega, Ent.mk (fun _ _ h => h) rfl rfl⟩
      rw [List.range_succ, List.all_append, ho, List.all_cons, hg1, hg2]
      simp; omega
  · refine ⟨[], ⟨?_, rfl⟩, fun w' h => h.pick [0] rfl rfl⟩
    have : ascF L = true := by
      rw [ascF, List.all_eq_true]
      intro i hi
      exact List.all_eq_true.1 ho i (by simp at hi ⊢; omega)
    rw [hr, this]; rfl
def singleF (N : Int) (E : List (Int × Int)) : List Int → Int
  | [] => 0
  | k :: r => if readyF N E [k] ≠ 0 then readyF N E [k] else singleF N E r
theorem single_spec {a a1 : Option Addr} {n c n1 c1 : Nat} {E : List (Int × Int)} {L : List Int} (N : Int) (w : World) (hL : Sl (encF fE) 2 (Hp.whole w) a n c E) (hM : Sl (encF fI) 1 (Hp.whole w) a1 n1 c1 L) (hl : L.length < 1000000000) :
    CallsE Try.prog 77 #[gv N a n c, .slice a1 n1 c1] w (RetV w (.int .i64 (singleF N E L))) := by
  have hlen := hM.len
  refine enter (X := cx 22) (cxg _) (args := [.agg #[.int .i64 N, .slice a n c], .slice a1 n1 c1]) [.tmp 4] Try.func77 rfl rfl rfl rfl rfl ?_
  intro b1
  refine NeedL.mk Nat (fun k => [(2, .bx 1 0), (8, .v (.slice a1 n1 c1)), (9, .v (.int .i64 n1)), (10, .v (.int .i64 k))]) (fun _ => [.hp (Hp.whole w), .box b1 [.int .i64 N, .slice a n c] 26])
    (fun k => k ≤ n1 ∧ singleF N E L = singleF N E (L.drop k)) (fun k => n1 - k) 0 ⟨Nat.zero_le _, rfl⟩ (Ent.mk (fun _ _ h => h) rfl rfl) ?_
  rintro k ⟨hk, ho⟩
  refine bsplitd (fun hlt => ?_) (fun hge => ?_)
  · have hlt' : k < L.length := by omega
    rw [List.drop_eq_getElem_cons hlt', singleF] at ho
    refine idx (cxg _) (e := 3) rfl hM k rfl hlt' (fun b o cs hcs hR hcell => ?_)
    subst hR
    refine ld1 (cxg _) (i := 0) rfl (hcell 0 _ rfl) rfl ?_
    intro b2
    refine callV _ (fun w' hm => ready_spec N w' (hL.mono (encF_mono _) (hm 0 _ rfl)) (Sl.box (f := fI) (fun _ => rfl) (by decide) (hm 2 _ rfl) [L[k]] rfl rfl (by simp)) (by simp)) ?_
    refine bsplitd (fun h => ?_) (fun h => ?_)
    · rw [if_pos h] at ho
      exact ⟨[], ⟨by rw [ho], rfl⟩, fun w' h => h.pick [0] rfl rfl⟩
    · rw [if_neg h] at ho
      refine nw (by omega) (by omega) ?_
      exact ⟨k + 1, ⟨by omega, ho⟩, by omega, Ent.mk (fun _ _ h => h.pick [0, 1] rfl rfl) rfl rfl⟩
  · rw [List.drop_of_length_le (by omega)] at ho
    exact ⟨[], ⟨by rw [ho]; rfl, rfl⟩, fun w' h => h.pick [0] rfl rfl⟩

theorem ready_one {N : Int} {E : List (Int × Int)} {k : Int} (h : readyF N E [k] = 0) : ∃ M : Nat, N = M ∧ Gr M E ∧ 0 ≤ k ∧ k < M := by
  unfold readyF at h
  split at h
  · rename_i h1; exact absurd h h1
  rename_i h1
  obtain ⟨M, rfl, hG, _⟩ := checkF_ok (Decidable.not_not.1 h1)
  split at h
  · cases h
  rename_i h2
  simp only [List.any_cons, List.any_nil, Bool.or_false, beyondF, Bool.or_eq_true, decide_eq_true_eq, not_or] at h2
  exact ⟨M, rfl, hG, by omega, by omega⟩
/-- a list, with an errno -/
def RetI (w : World) (L : List Int) (x : Int) : Ending → World → Prop := Ret w fun v cs => ∃ o : Dw.Os, v = .tuple #[o.v, .int .i64 x] ∧ cs = [.hp o.h] ∧ OwnO fI 3 1 o L
/-- beside each node but the root what bes says -/
def besK (N k : Nat) (root : Int) (bes : Nat → Int) : List Int := (List.range N).map fun i => if i < k then (if (i : Int) = root then -1 else bes i) else 0
theorem besK_zero (N : Nat) (root : Int) (bes : Nat → Int) : besK N 0 root bes = List.replicate N 0 := by
  apply List.ext_getElem
  · simp [besK]
  · intro i h1 h2; simp [besK]
theorem besK_succ (N k : Nat) (root : Int) (bes : Nat → Int) : besK N (k + 1) root bes = (besK N k root bes).set k (if (k : Int) = root then -1 else bes k) := by
  apply List.ext_getElem
  · simp [besK]
  · intro i h1 h2
    rw [List.getElem_set]
    simp only [besK, List.getElem_map, List.getElem_range]
    by_cases h : k = i
    · subst h; simp
    · rw [if_neg h]
      by_cases h3 : i < k
      · rw [if_pos h3, if_pos (by omega)]
      · rw [if_neg h3, if_neg (by omega)]
theorem set_set {α : Type} (L : List α) (k : Nat) (x y : α) : (L.set k x).set k y = L.set k y := List.set_set ..
def treeR (N : Int) (E : List (Int × Int)) (root : Int) (bes : Nat → Int) : List Int := if singleF N E [root] ≠ 0 then [] else besK N.toNat N.toNat root bes
theorem tree_spec {a : Option Addr} {n c : Nat} {E : List (Int × Int)} (N root : Int) (g : Nat) (c1 c2 : Value) (bes : Nat → Int) (w : World) (hL : Sl (encF fE) 2 (Hp.whole w) a n c E)
    (hp : singleF N E [root] = 0 → ∀ w', (Hp.whole w).In w' → ∀ k : Nat, (k : Int) < N → (k : Int) ≠ root → CallsE Try.prog g #[.int .i64 k, c1, c2] w' (RetV w' (.int .i64 (bes k)))) :
    CallsE Try.prog 81 #[gv N a n c, .int .i64 root, .func (.func g) #[] #[c1, c2]] w (RetI w (treeR N E root bes) (singleF N E [root])) := by
  refine enter (X := cx 40) (cxg _) (args := [.agg #[.int .i64 N, .slice a n c], .int .i64 root, .func (.func g) #[] #[c1, c2]]) [.tmp 6, .tmp 7] Try.func81 rfl rfl rfl rfl rfl ?_
  intro b1 b2
  refine callV _ (fun w' hm => single_spec N w' (hL.mono (encF_mono _) (hm 0 _ rfl)) (Sl.box (f := fI) (fun _ => rfl) (by decide) (hm 2 _ rfl) [root] rfl rfl (by simp)) (by simp)) ?_
  refine bsplitd (fun h => ?_) (fun h => ?_)
  · refine ⟨[.hp Hp.emp], ⟨Os.nil, rfl, rfl, ?_⟩, fun w' h => (h.pick [0] rfl rfl).emp⟩
    unfold treeR; rw [if_pos h]; exact OwnO.nil _ _ _
  have h0 : singleF N E [root] = 0 := Decidable.not_not.1 h
  obtain ⟨M, rfl, hG, hr0, hr1⟩ : ∃ M : Nat, N = M ∧ Gr M E ∧ 0 ≤ root ∧ root < M := by
    refine ready_one (k := root) ?_
    have h1 := h0
    simp only [singleF] at h1
    split at h1
    · exact h1
    · rename_i h2; exact Decidable.not_not.1 h2
  have hN := hG.hN
  have htr : treeR M E root bes = besK M M root bes := by unfold treeR; rw [if_neg h]; rfl
  refine mkO (f := fI) (cxg _) (e := 3) rfl M 0 rfl rfl rfl rfl (by omega) fun o ho' ho => ?_
  refine NeedL.mk (Nat × Dw.Os) (fun g' => [(1, .v (.int .i64 root)), (2, .v (.func (.func g) #[] #[c1, c2])), (9, .v g'.2.v), (22, .v (.int .i64 M)), (23, .v (.int .i64 g'.1))]) (fun g' => [.hp (Hp.whole w), .hp g'.2.h])
    (fun g' => g'.1 ≤ M ∧ g'.2.n = M ∧ OwnO fI 3 1 g'.2 (besK M g'.1 root bes)) (fun g' => M - g'.1) (0, o) ⟨Nat.zero_le _, ho', by dsimp only; rw [besK_zero]; exact ho⟩ (Ent.mk (fun _ _ h => h.pick [0, 3] rfl rfl) (by rw [← ho']; rfl) rfl) ?_
  clear ho' ho o
  rintro ⟨k, o⟩ ⟨hk, hon, ho⟩
  dsimp only at *
  refine bsplitd (fun hlt => ?_) (fun hge => ?_)
  · have hko : k < (besK M k root bes).length := by simp [besK]; omega
    have st := besK_succ M k root bes
    refine oidx1 (cxg _) (e := 3) rfl rfl ho k rfl hko fun b3 hb3 => ?_
    refine osto (g := fun x : Int => .int .i64 x) (fun _ => rfl) (cxg _) (i := 1) rfl hb3 ho hko rfl rfl (-1) rfl rfl rfl fun o3 e1 e2 e3 ho3 => ?_
    have hov : o3.v = o.v := by simp only [Os.v, e1, e2, e3]
    refine bsplitd (fun hne => ?_) (fun heq => ?_)
    · refine callV _ (fun w' hm => hp h0 w' (hm 0 _ rfl) k (by omega) hne) ?_
      have hko3 : k < ((besK M k root bes).set k (-1)).length := by simpa using hko
      rw [← hov]
      refine oidx1 (cxg _) (e := 3) rfl rfl ho3 k rfl hko3 fun b3 hb3 => ?_
      refine osto (g := fun x : Int => .int .i64 x) (fun _ => rfl) (cxg _) (i := 1) rfl hb3 ho3 hko3 rfl rfl (bes k) rfl rfl rfl fun o4 f1 f2 f3 ho4 => ?_
      refine nw (by omega) (by omega) ?_
      refine ⟨(k + 1, o4), ⟨by dsimp only; omega, by dsimp only; omega, ?_⟩, by dsimp only; omega, Ent.mk (fun _ _ h => h) (by dsimp only [Os.v]; rw [f1, f2, f3]; rfl) rfl⟩
      dsimp only
      rw [st, if_neg hne, ← set_set _ k (-1)]; exact ho4
    · refine nw (by omega) (by omega) ?_
      refine ⟨(k + 1, o3), ⟨by dsimp only; omega, by dsimp only; omega, ?_⟩, by dsimp only; omega, Ent.mk (fun _ _ h => h) (by dsimp only [Os.v]; rw [e1, e2, e3]; rfl) rfl⟩
      dsimp only
      rw [st, if_pos (Decidable.not_not.1 heq)]; exact ho3
  · rw [show k = M by omega] at ho
    exact ⟨[.hp o.h], ⟨o, by rw [h0], rfl, by rw [htr]; exact ho⟩, fun w' h => h⟩
end Go.Proofs.Ytdjhgcpmipglfaa
