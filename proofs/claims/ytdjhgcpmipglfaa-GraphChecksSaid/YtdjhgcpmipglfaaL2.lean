/- Contracts of the reference's Check and Make. Their premises are their own. -/
import Derived.Test.YtdjhgcpmipglfaaL1
namespace Go.Proofs.Ytdjhgcpmipglfaa
open Go Go.RowKit Go.Dw
def rowK (E : List (Int × Int)) (a k : Nat) : List (Int × Int) := ((List.range k).filter fun b : Nat => hasF E a b).map fun b : Nat => ((a : Int), (b : Int))
def mkK (E : List (Int × Int)) (N a : Nat) : List (Int × Int) := (List.range a).flatMap fun i => rowK E i N
def mkF (N : Nat) (E : List (Int × Int)) : List (Int × Int) := mkK E N N
theorem rowK_len (E : List (Int × Int)) (a k : Nat) : (rowK E a k).length ≤ k := by
  unfold rowK; rw [List.length_map]
  exact Nat.le_trans (List.length_filter_le _ _) (by simp)
theorem rowK_succ (E : List (Int × Int)) (a k : Nat) : rowK E a (k + 1) = if hasF E a k then rowK E a k ++ [((a : Int), (k : Int))] else rowK E a k := by
  unfold rowK
  rw [List.range_succ, List.filter_append, List.map_append]
  by_cases h : hasF E a k <;> simp [h]
theorem mkK_succ (E : List (Int × Int)) (N a : Nat) : mkK E N (a + 1) = mkK E N a ++ rowK E a N := by
  unfold mkK; rw [List.range_succ, List.flatMap_append]; simp
theorem mkK_len (E : List (Int × Int)) (N : Nat) : ∀ a, (mkK E N a).length ≤ a * N
  | 0 => by simp [mkK]
  | a + 1 => by
    rw [mkK_succ, List.length_append, Nat.succ_mul]
    exact Nat.add_le_add (mkK_len E N a) (rowK_len E a N)
/-- a graph of the reference, with an errno -/
def RetH (w : World) (r : Int × List (Int × Int) × Int) : Ending → World → Prop := Ret w fun v cs => ∃ o : Dw.Os, v = .tuple #[gv r.1 o.a o.n o.c, .int .i64 r.2.2] ∧ cs = [.hp o.h] ∧ OwnO fE 85 2 o r.2.1
def rmkR (N : Int) (E : List (Int × Int)) : Int × List (Int × Int) × Int := if N < 0 ∨ N > 64 ∨ E.any (outF N) = true then (0, [], 2) else (N, mkF N.toNat E, 0)
theorem Make_spec {a : Option Addr} {n c : Nat} {E : List (Int × Int)} (N : Int) (w : World) (hL : Sl (encF fE) 2 (Hp.whole w) a n c E) (hn : n < 1000000000000) :
    CallsE Try.prog 18 #[.int .i64 N, .slice a n c] w (RetH w (rmkR N E)) := by
  have hlen := hL.len
  have bad : (N < 0 ∨ N > 64 ∨ E.any (outF N) = true) → rmkR N E = (0, [], 2) := fun h => if_pos h
  refine enter (X := cx 51) (cxg _) (args := [.int .i64 N, .slice a n c]) [.cell 4 35, .tmp 5] Try.func18 rfl rfl rfl rfl rfl ?_
  intro b0
  refine bsplitd (fun h1 => ?_) (fun h1 => ?_)
  · exact ⟨[.hp Hp.emp], ⟨Os.nil, by rw [bad (.inl h1)]; rfl, rfl, by rw [bad (.inl h1)]; exact OwnO.nil _ _ _⟩, fun w' h => (h.pick [0] rfl rfl).emp⟩
  refine bsplitd (fun h2 => ?_) (fun h2 => ?_)
  · exact ⟨[.hp Hp.emp], ⟨Os.nil, by rw [bad (.inr (.inl h2))]; rfl, rfl, by rw [bad (.inr (.inl h2))]; exact OwnO.nil _ _ _⟩, fun w' h => (h.pick [0] rfl rfl).emp⟩
  refine callV _ (fun w' hm => inside_spec N w' (hL.mono (encF_mono _) (hm 0 _ rfl)) hn) ?_
  refine bsplit (fun h3 => ?_) (fun h3 => ?_)
  · rw [Bool.not_not] at h3
    exact ⟨[.hp Hp.emp], ⟨Os.nil, by rw [bad (.inr (.inr h3))]; rfl, rfl, by rw [bad (.inr (.inr h3))]; exact OwnO.nil _ _ _⟩, fun w' h => (h.pick [0] rfl rfl).emp⟩
  rw [Bool.not_not] at h3
  obtain ⟨M, rfl⟩ : ∃ M : Nat, N = M := ⟨N.toNat, by omega⟩
  have good : rmkR M E = ((M : Int), mkF M E, 0) := by unfold rmkR; rw [if_neg (by rw [h3]; simp; omega)]; rfl
  intro b6 b7
  refine NeedL.mk (Nat × Dw.Os) (fun g => [(0, .v (.int .i64 M)), (4, .bx 1 0), (6, .bx 2 0), (7, .bx 3 0), (8, .v (.int .i64 g.1))])
    (fun g => [.hp (Hp.whole w), .box b0 [.int .i64 0, .slice none 0 0] 35, .box b6 [.int .i64 M, .slice a n c] 35, .box b7 [.int .i64 M, g.2.v] 35, .hp g.2.h])
    (fun g => g.1 ≤ M ∧ OwnO fE 85 2 g.2 (mkK E M g.1)) (fun g => M - g.1) (0, Os.nil) ⟨Nat.zero_le _, OwnO.nil _ _ _⟩ (Ent.mk (fun _ _ h => h.emp) rfl rfl) ?_
  rintro ⟨i, o1⟩ ⟨hi, ho1⟩
  dsimp only at *
  refine bsplitd (fun hlt => ?_) (fun hge => ?_)
  · refine NeedL.mk (Nat × Dw.Os) (fun g => [(0, .v (.int .i64 M)), (4, .bx 1 0), (6, .bx 2 0), (7, .bx 3 0), (8, .v (.int .i64 i)), (9, .v (.int .i64 g.1))])
      (fun g => [.hp (Hp.whole w), .box b0 [.int .i64 0, .slice none 0 0] 35, .box b6 [.int .i64 M, .slice a n c] 35, .box b7 [.int .i64 M, g.2.v] 35, .hp g.2.h])
      (fun g => g.1 ≤ M ∧ OwnO fE 85 2 g.2 (mkK E M i ++ rowK E i g.1)) (fun g => M - g.1) (0, o1) ⟨Nat.zero_le _, by simpa [rowK] using ho1⟩ (Ent.mk (fun _ _ h => h) rfl rfl) ?_
    rintro ⟨j, o2⟩ ⟨hj, ho2⟩
    dsimp only at *
    have l1 := mkK_len E M i
    have l2 := rowK_len E i j
    have l3 : i * M ≤ 64 * 64 := Nat.mul_le_mul (by omega) (by omega)
    refine bsplitd (fun hlt2 => ?_) (fun hge2 => ?_)
    · have st := rowK_succ E i j
      refine callV _ (fun w' hm => Has_spec M i j w' (hL.mono (encF_mono _) (hm 0 _ rfl)) hn) ?_
      refine bsplit (fun hh => ?_) (fun hh => ?_)
      · rw [if_pos hh] at st
        intro b8
        refine appO (cxg _) (e := 85) rfl (i := 4) rfl ho2 (j := 5) ((i : Int), (j : Int)) rfl rfl rfl rfl (by simp only [List.length_append]; omega) (fun o' ho' => ?_)
        refine nw (by omega) (by omega) ?_
        exact ⟨(j + 1, o'), ⟨by dsimp only; omega, by dsimp only; rw [st, ← List.append_assoc]; exact ho'⟩, by dsimp only; omega, Ent.mk (fun _ _ h => h.pick [0, 1, 2, 3, 4] rfl rfl) rfl rfl⟩
      · rw [if_neg (by rw [hh]; exact Bool.false_ne_true)] at st
        refine nw (by omega) (by omega) ?_
        exact ⟨(j + 1, o2), ⟨by dsimp only; omega, by dsimp only; rw [st]; exact ho2⟩, by dsimp only; omega, Ent.mk (fun _ _ h => h.pick [0, 1, 2, 3, 4] rfl rfl) rfl rfl⟩
    · rw [show j = M by omega, ← mkK_succ] at ho2
      refine nw (by omega) (by omega) ?_
      exact ⟨(i + 1, o2), ⟨by dsimp only; omega, ho2⟩, by dsimp only; omega, Ent.mk (fun _ _ h => h) rfl rfl⟩
  · rw [show i = M by omega] at ho1
    exact ⟨[.hp o1.h], ⟨o1, by rw [good]; rfl, rfl, by rw [good]; exact ho1⟩, fun w' h => h.pick [0, 4] rfl rfl⟩
theorem befF_iff (x y : Int × Int) : befF x y = true ↔ orderF x y < 0 := by
  unfold befF orderF cmpI
  simp only [Bool.or_eq_true, Bool.and_eq_true, decide_eq_true_eq]
  split <;> split <;> (try split) <;> (try split) <;> omega
theorem RCheck_spec {a : Option Addr} {n c : Nat} {E : List (Int × Int)} (N : Int) (w : World) (hL : Sl (encF fE) 2 (Hp.whole w) a n c E) :
    CallsE Try.prog 67 #[gv N a n c] w (RetV w (.int .i64 (checkF N E))) := by
  have hlen := hL.len
  refine enter (X := cx 47) (cxg _) (args := [.agg #[.int .i64 N, .slice a n c]]) [.tmp 2] Try.func67 rfl rfl rfl rfl rfl ?_
  intro b
  refine bsplitd (fun h1 => ?_) (fun h1 => ?_)
  · exact ⟨[], ⟨by simp [checkF, h1], rfl⟩, fun w' h => h.pick [0] rfl rfl⟩
  refine bsplitd (fun h2 => ?_) (fun h2 => ?_)
  · exact ⟨[], ⟨by simp [checkF, h1, h2], rfl⟩, fun w' h => h.pick [0] rfl rfl⟩
  have hN : 0 ≤ N * N ∧ N * N ≤ 64 * 64 := ⟨Int.mul_nonneg (by omega) (by omega), Int.mul_le_mul (by omega) (by omega) (by omega) (by omega)⟩
  refine nw (by omega) (by omega) ?_
  refine bsplitd (fun h3 => ?_) (fun h3 => ?_)
  · exact ⟨[], ⟨by simp only [checkF]; rw [if_neg (by omega), if_pos (by omega)], rfl⟩, fun w' h => h.pick [0] rfl rfl⟩
  have hc1 : checkF N E = if E.any (outF N) then 2 else if sortedF E then 0 else 8 := by simp only [checkF]; rw [if_neg (by omega), if_neg (by omega)]
  refine callV _ (fun w' hm => inside_spec N w' (hL.mono (encF_mono _) (hm 0 _ rfl)) (by omega)) ?_
  refine bsplit (fun h4 => ?_) (fun h4 => ?_)
  · rw [Bool.not_not] at h4
    exact ⟨[], ⟨by rw [hc1, h4]; rfl, rfl⟩, fun w' h => h.pick [0] rfl rfl⟩
  rw [Bool.not_not] at h4
  rw [h4] at hc1
  refine NeedL.mk Nat (fun k => [(1, .bx 1 0), (3, .v (.int .i64 (k + 1 : Nat)))]) (fun _ => [.hp (Hp.whole w), .box b [.int .i64 N, .slice a n c] 35])
    (fun k => k ≤ n ∧ ((List.range k).all fun i => decide (orderF (E.getD i (0, 0)) (E.getD (i + 1) (0, 0)) < 0)) = true) (fun k => n - k) 0 ⟨Nat.zero_le _, rfl⟩ (Ent.mk (fun _ _ h => h) rfl rfl) ?_
  rintro k ⟨hk, ho⟩
  refine bsplitd (fun hlt => ?_) (fun hge => ?_)
  · have hlt' : k + 1 < E.length := by omega
    refine NeedD.by_order (cxg _) (.take 0 <| .take 1 <| .take 2 <| .take 3 <| .take 4 <| .take 5 <| .take 6 <| .take 7 <| .take 8 <| .take 9 <| .take 10 <| .run 11 <| .take 12 <| .done) (by kernel_rfl) ?_
    refine nw (by omega) (by omega) ?_
    refine idx (cxg _) (e := 85) rfl hL k (by omega) (by omega) (fun b o cs hcs hR hcell => ?_)
    subst hR
    refine ldn (cxg _) (i := 0) rfl hcell rfl ?_
    refine idx (cxg _) (e := 85) rfl hL (k + 1) rfl (by omega) (fun b o cs hcs hR hcell => ?_)
    subst hR
    refine ldn (cxg _) (i := 0) rfl hcell rfl ?_
    refine callV _ (fun w' _ => before_spec _ _ w') ?_
    refine ⟨subL_refl _, ?_⟩
    have hg1 : E.getD k (0, 0) = E[k] := by simp [List.getD, show k < E.length by omega]
    have hg2 : E.getD (k + 1) (0, 0) = E[k + 1] := by simp [List.getD, show k + 1 < E.length by omega]
    have hbf := befF_iff E[k] E[k + 1]
    refine bsplit (fun h6 => ?_) (fun h6 => ?_)
    · refine ⟨[], ⟨?_, rfl⟩, fun w' h => h.pick [0] rfl rfl⟩
      rw [Bool.not_eq_true'] at h6
      have : sortedF E = false := by
        rw [sortedF, List.all_eq_false]
        refine ⟨k, by simp; omega, ?_⟩
        rw [hg1, hg2, decide_eq_true_eq, ← hbf, h6]
        exact Bool.false_ne_true
      rw [hc1, this]; rfl
    · rw [Bool.not_eq_false'] at h6
      refine nw (by omega) (by omega) ?_
      refine ⟨k + 1, ⟨by omega, ?_⟩, by omega, Ent.mk (fun _ _ h => h) rfl rfl⟩
      rw [List.range_succ, List.all_append, ho, List.all_cons, hg1, hg2, decide_eq_true (hbf.1 h6)]
      rfl
  · refine ⟨[], ⟨?_, rfl⟩, fun w' h => h.pick [0] rfl rfl⟩
    have : sortedF E = true := by
      rw [sortedF, List.all_eq_true]
      intro i hi
      exact List.all_eq_true.1 ho i (by simp at hi ⊢; omega)
    rw [hc1, this]; rfl
end Go.Proofs.Ytdjhgcpmipglfaa
