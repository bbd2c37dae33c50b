/- Contracts of the reference's Nodes, Reverse, Induced; the plain law of reversing and inducing. Their premises are their own. -/
import Derived.Test.YtdjhgcpmipglfaaYLb
namespace Go.Proofs.Ytdjhgcpmipglfaa
open Go Go.RowKit Go.Dw
def nodF (N : Int) (L : List Int) : Int := if L.any (beyondF N) then 2 else if ascF L then 0 else 8
theorem RNodes_spec {a a1 : Option Addr} {n c n1 c1 : Nat} {L : List Int} (N : Int) (w : World) (hM : Sl (encF fI) 1 (Hp.whole w) a1 n1 c1 L) (hl : L.length < 1000000) :
    CallsE Try.prog 68 #[gv N a n c, .slice a1 n1 c1] w (RetV w (.int .i64 (nodF N L))) := by
  have hml := hM.len
  refine enter (X := cx 43) (cxg _) (args := [.agg #[.int .i64 N, .slice a n c], .slice a1 n1 c1]) [.tmp 4] Try.func68 rfl rfl rfl rfl rfl ?_
  intro b1
  refine NeedL.mk Nat (fun k => [(1, .v (.slice a1 n1 c1)), (2, .bx 1 0), (5, .v (.int .i64 k))]) (fun _ => [.hp (Hp.whole w), .box b1 [.int .i64 N, .slice a n c] 35])
    (fun k => k ≤ n1 ∧ (L.take k).any (beyondF N) = false) (fun k => n1 - k) 0 ⟨Nat.zero_le _, rfl⟩ (Ent.mk (fun _ _ h => h) rfl rfl) ?_
  rintro k ⟨hk, ho⟩
  refine bsplitd (fun hlt => ?_) (fun hge => ?_)
  · have hlt' : k < L.length := by omega
    refine NeedD.by_order (cxg _) (.take 0 <| .take 1 <| .take 2 <| .take 3 <| .take 4 <| .take 5 <| .take 6 <| .take 7 <| .take 8 <| .take 9 <| .take 10 <| .take 11 <| .take 12 <| .take 13 <| .done) (by kernel_rfl) ?_
    refine idx (cxg _) (e := 3) rfl hM k rfl hlt' (fun b o cs hcs hR hcell => ?_)
    subst hR
    refine ld1 (cxg _) (i := 0) rfl (hcell 0 _ rfl) rfl ?_
    refine bsplitd (fun h1 => ?_) (fun h1 => ?_)
    · exact ⟨[], ⟨by unfold nodF; rw [any_hit hlt' (by simp [beyondF, h1])]; rfl, rfl⟩, fun w' h => h.pick [0] rfl rfl⟩
    refine idx (cxg _) (e := 3) rfl hM k rfl hlt' (fun b o cs hcs hR hcell => ?_)
    subst hR
    refine ld1 (cxg _) (i := 0) rfl (hcell 0 _ rfl) rfl ?_
    refine bsplitd (fun h2 => ?_) (fun h2 => ?_)
    · exact ⟨[], ⟨by unfold nodF; rw [any_hit hlt' (by simp [beyondF, h2])]; rfl, rfl⟩, fun w' h => h.pick [0] rfl rfl⟩
    refine nw (by omega) (by omega) ?_
    exact ⟨k + 1, ⟨by omega, any_step hlt' ho (by simp [beyondF]; omega)⟩, by omega, Ent.mk (fun _ _ h => h) rfl rfl⟩
  rw [List.take_of_length_le (by omega)] at ho
  have hnf : nodF N L = if ascF L then 0 else 8 := by unfold nodF; rw [ho]; rfl
  refine NeedL.mk Nat (fun k => [(1, .v (.slice a1 n1 c1)), (6, .v (.int .i64 (k + 1 : Nat)))]) (fun _ => [.hp (Hp.whole w)])
    (fun k => k ≤ n1 ∧ ((List.range k).all fun i => decide (L.getD i 0 < L.getD (i + 1) 0)) = true) (fun k => n1 - k) 0 ⟨Nat.zero_le _, rfl⟩ (Ent.mk (fun _ _ h => h.pick [0] rfl rfl) rfl rfl) ?_
  rintro k ⟨hk, ha⟩
  refine bsplitd (fun hlt => ?_) (fun hge => ?_)
  · have hlt' : k + 1 < L.length := by omega
    have e1 : L.getD k 0 = L[k] := by simp [List.getD, show k < L.length by omega]
    have e2 : L.getD (k + 1) 0 = L[k + 1] := by simp [List.getD, hlt']
    refine NeedD.by_order (cxg _) (.take 0 <| .take 1 <| .take 2 <| .take 3 <| .take 4 <| .take 5 <| .take 6 <| .take 7 <| .take 8 <| .take 9 <| .done) (by kernel_rfl) ?_
    refine nw (by omega) (by omega) ?_
    refine idx (cxg _) (e := 3) rfl hM k (by omega) (by omega) (fun b o cs hcs hR hcell => ?_)
    subst hR
    refine ld1 (cxg _) (i := 0) rfl (hcell 0 _ rfl) rfl ?_
    refine idx (cxg _) (e := 3) rfl hM (k + 1) rfl hlt' (fun b o cs hcs hR hcell => ?_)
    subst hR
    refine ld1 (cxg _) (i := 0) rfl (hcell 0 _ rfl) rfl ?_
    refine bsplitd (fun h1 => ?_) (fun h1 => ?_)
    · have : ascF L = false := by
        unfold ascF
        rw [List.all_eq_false]
        exact ⟨k, List.mem_range.2 (by omega), by rw [e1, e2]; simp; omega⟩
      exact ⟨[], ⟨by rw [hnf, this]; rfl, rfl⟩, fun w' h => h⟩
    · refine nw (by omega) (by omega) ?_
      refine ⟨k + 1, ⟨by omega, ?_⟩, by omega, Ent.mk (fun _ _ h => h) rfl rfl⟩
      rw [List.range_succ, List.all_append, ha, List.all_cons, e1, e2]
      simp; omega
  · have : ascF L = true := by
      unfold ascF
      rw [List.all_eq_true]
      intro i hi
      exact List.all_eq_true.1 ha i (by simp at hi ⊢; omega)
    exact ⟨[], ⟨by rw [hnf, this]; rfl, rfl⟩, fun w' h => h⟩
theorem ready_nod {N : Int} {E : List (Int × Int)} {L : List Int} (h0 : checkF N E = 0) : readyF N E L = nodF N L := by
  unfold readyF nodF; rw [if_neg (by rw [h0]; simp)]
theorem RReverse_spec {a : Option Addr} {n c : Nat} {E : List (Int × Int)} (N : Int) (w : World) (hL : Sl (encF fE) 2 (Hp.whole w) a n c E) (hl : E.length < 1000000) :
    CallsE Try.prog 56 #[gv N a n c] w (Ret w fun v cs => ∃ o : Dw.Os, v = gv (rmkR N (E.map flip)).1 o.a o.n o.c ∧ cs = [.hp o.h] ∧ OwnO fE 85 2 o (rmkR N (E.map flip)).2.1) := by
  have hlen := hL.len
  refine enter (X := cx 38) (cxg _) (args := [.agg #[.int .i64 N, .slice a n c]]) [.cell 2 35] Try.func56 rfl rfl rfl rfl rfl ?_
  intro b1 b2
  refine NeedL.mk (Nat × Dw.Os) (fun g => [(1, .bx 1 0), (2, .bx 2 0), (3, .v g.2.v), (4, .v (.int .i64 g.1))])
    (fun g => [.hp (Hp.whole w), .box b1 [.int .i64 N, .slice a n c] 35, .box b2 [.int .i64 0, .slice none 0 0] 35, .hp g.2.h])
    (fun g => g.1 ≤ n ∧ OwnO fE 85 2 g.2 ((E.take g.1).map flip)) (fun g => n - g.1) (0, Os.nil) ⟨Nat.zero_le _, OwnO.nil _ _ _⟩ (Ent.mk (fun _ _ h => h.emp) rfl rfl) ?_
  rintro ⟨k, o1⟩ ⟨hk, ho⟩
  dsimp only at *
  refine bsplitd (fun hlt => ?_) (fun hge => ?_)
  · have hlt' : k < E.length := by omega
    refine NeedD.by_order0 (cxg _) (.take 0 <| .take 1 <| .take 2 <| .take 3 <| .take 4 <| .take 5 <| .take 6 <| .take 7 <| .take 8 <| .take 9 <| .take 10 <| .take 11 <| .take 12 <| .take 13 <| .run 14 <| .run 15 <| .run 16 <| .done) (by kernel_rfl) (subL_blank _ 3) ?_
    refine idx (cxg _) (e := 85) rfl hL k rfl hlt' (fun b o cs hcs hR hcell => ?_)
    subst hR
    refine idxA (cxg _) rfl rfl rfl 1 rfl rfl ?_
    refine ld1 (cxg _) (i := 0) rfl (hcell 1 _ rfl) rfl ?_
    refine idx (cxg _) (e := 85) rfl hL k rfl hlt' (fun b o cs hcs hR hcell => ?_)
    subst hR
    refine idxA (cxg _) rfl rfl rfl 0 rfl rfl ?_
    refine ld1 (cxg _) (i := 0) rfl (hcell 0 _ rfl) rfl ?_
    intro b5
    refine ⟨(by repeat first | exact trivial | refine ⟨.inl rfl, ?_⟩ | refine ⟨.inr rfl, ?_⟩), ?_⟩
    refine appO (cxg _) (e := 85) rfl (i := 3) rfl ho (j := 4) (flip E[k]) rfl rfl rfl rfl (by simp; omega) (fun o' ho' => ⟨(by repeat first | exact trivial | refine ⟨.inl rfl, ?_⟩ | refine ⟨.inr rfl, ?_⟩), ?_⟩)
    refine nw (by omega) (by omega) ?_
    exact ⟨(k + 1, o'), ⟨by dsimp only; omega, by dsimp only; rw [List.take_succ_eq_append_getElem hlt', List.map_append]; exact ho'⟩, by dsimp only; omega, Ent.mk (fun _ _ h => h.pick [0, 1, 2, 3] rfl rfl) rfl rfl⟩
  rw [List.take_of_length_le (by omega)] at ho
  have hs := OwnO.sl (f := fE) (fun _ => rfl) (by decide) ho
  have hn := ho.len
  rw [List.length_map] at hn
  refine call (fun w' hm => Make_spec N w' (hs.mono (encF_mono _) (hm 3 _ rfl)) (by omega)) ?_
  rintro _ _ ⟨o3, rfl, rfl, ho3⟩
  intro b6
  exact ⟨[.hp o3.h], ⟨o3, rfl, rfl, ho3⟩, fun w' h => h.pick [0, 4] rfl rfl⟩
def rinRow (E : List (Int × Int)) (L : List Int) (a k : Nat) : List (Int × Int) := ((List.range k).filter fun b : Nat => hasF E (L.getD a 0) (L.getD b 0)).map fun b : Nat => ((a : Int), (b : Int))
def rinK (E : List (Int × Int)) (L : List Int) (a : Nat) : List (Int × Int) := (List.range a).flatMap fun i => rinRow E L i L.length
theorem rinRow_succ (E : List (Int × Int)) (L : List Int) (a k : Nat) : rinRow E L a (k + 1) = if hasF E (L.getD a 0) (L.getD k 0) then rinRow E L a k ++ [((a : Int), (k : Int))] else rinRow E L a k := by
  unfold rinRow
  rw [List.range_succ, List.filter_append, List.map_append]
  by_cases h : hasF E (L.getD a 0) (L.getD k 0)
  · rw [if_pos h, List.filter_cons_of_pos (by exact h)]; rfl
  · rw [if_neg h, List.filter_cons_of_neg (by exact h), List.filter_nil, List.map_nil, List.append_nil]
theorem rinK_succ (E : List (Int × Int)) (L : List Int) (a : Nat) : rinK E L (a + 1) = rinK E L a ++ rinRow E L a L.length := by
  unfold rinK; rw [List.range_succ, List.flatMap_append]; simp
theorem rinRow_len (E : List (Int × Int)) (L : List Int) (a k : Nat) : (rinRow E L a k).length ≤ k := by
  unfold rinRow; rw [List.length_map]; exact Nat.le_trans (List.length_filter_le _ _) (by simp)
theorem rinK_len (E : List (Int × Int)) (L : List Int) : ∀ a, (rinK E L a).length ≤ a * L.length
  | 0 => by simp [rinK]
  | a + 1 => by
    rw [rinK_succ, List.length_append, Nat.succ_mul]
    exact Nat.add_le_add (rinK_len E L a) (rinRow_len E L a _)
theorem RInduced_spec {a a1 : Option Addr} {n c n1 c1 : Nat} {E : List (Int × Int)} {L : List Int} (N : Int) (w : World) (hL : Sl (encF fE) 2 (Hp.whole w) a n c E) (hM : Sl (encF fI) 1 (Hp.whole w) a1 n1 c1 L) (hn : n < 1000000) (hl : L.length ≤ 100) :
    CallsE Try.prog 57 #[gv N a n c, .slice a1 n1 c1] w (Ret w fun v cs => ∃ o : Dw.Os, v = gv L.length o.a o.n o.c ∧ cs = [.hp o.h] ∧ OwnO fE 85 2 o (rinK E L L.length)) := by
  have hml := hM.len
  refine enter (X := cx 42) (cxg _) (args := [.agg #[.int .i64 N, .slice a n c], .slice a1 n1 c1]) [.cell 4 35] Try.func57 rfl rfl rfl rfl rfl ?_
  intro b1 b2 b3
  refine NeedL.mk (Nat × Dw.Os) (fun g => [(1, .v (.slice a1 n1 c1)), (2, .bx 1 0), (4, .bx 2 0), (5, .bx 3 0), (6, .v (.int .i64 g.1))])
    (fun g => [.hp (Hp.whole w), .box b1 [.int .i64 N, .slice a n c] 35, .box b2 [.int .i64 0, .slice none 0 0] 35, .box b3 [.int .i64 n1, g.2.v] 35, .hp g.2.h])
    (fun g => g.1 ≤ n1 ∧ OwnO fE 85 2 g.2 (rinK E L g.1)) (fun g => n1 - g.1) (0, Os.nil) ⟨Nat.zero_le _, OwnO.nil _ _ _⟩ (Ent.mk (fun _ _ h => h.emp) rfl rfl) ?_
  rintro ⟨i, o1⟩ ⟨hi, ho1⟩
  dsimp only at *
  refine bsplitd (fun hlt => ?_) (fun hge => ?_)
  · have hil : i < L.length := by omega
    have ei : L.getD i 0 = L[i] := by simp [List.getD, hil]
    refine NeedL.mk (Nat × Dw.Os) (fun g => [(1, .v (.slice a1 n1 c1)), (2, .bx 1 0), (4, .bx 2 0), (5, .bx 3 0), (6, .v (.int .i64 i)), (7, .v (.int .i64 g.1))])
      (fun g => [.hp (Hp.whole w), .box b1 [.int .i64 N, .slice a n c] 35, .box b2 [.int .i64 0, .slice none 0 0] 35, .box b3 [.int .i64 n1, g.2.v] 35, .hp g.2.h])
      (fun g => g.1 ≤ n1 ∧ OwnO fE 85 2 g.2 (rinK E L i ++ rinRow E L i g.1)) (fun g => n1 - g.1) (0, o1) ⟨Nat.zero_le _, by simpa [rinRow] using ho1⟩ (Ent.mk (fun _ _ h => h) rfl rfl) ?_
    rintro ⟨j, o2⟩ ⟨hj, ho2⟩
    dsimp only at *
    have l1 := rinK_len E L i
    have l2 := rinRow_len E L i j
    have l3 : i * L.length ≤ 100 * 100 := Nat.mul_le_mul (by omega) (by omega)
    refine bsplitd (fun hlt2 => ?_) (fun hge2 => ?_)
    · have hjl : j < L.length := by omega
      have ej : L.getD j 0 = L[j] := by simp [List.getD, hjl]
      have st := rinRow_succ E L i j
      rw [ei, ej] at st
      have hp := fun (w' : World) (hm : (Hp.whole w).In w') => Has_spec N (L[i]'hil) (L[j]'hjl) w' (hL.mono (encF_mono _) hm) (by omega)
      refine NeedD.by_order (cxg _) (.take 0 <| .take 1 <| .take 2 <| .take 3 <| .take 4 <| .take 5 <| .take 6 <| .take 7 <| .take 8 <| .run 9 <| .done) (by kernel_rfl) ?_
      refine idx (cxg _) (e := 3) rfl hM i rfl hil (fun b o cs hcs hR hcell => ?_)
      subst hR
      refine ld1 (cxg _) (i := 0) rfl (hcell 0 _ rfl) rfl ?_
      refine idx (cxg _) (e := 3) rfl hM j rfl hjl (fun b o cs hcs hR hcell => ?_)
      subst hR
      refine ld1 (cxg _) (i := 0) rfl (hcell 0 _ rfl) rfl ?_
      refine callV _ (fun w' hm => hp w' (hm 0 _ rfl)) ?_
      refine ⟨(by repeat first | exact trivial | refine ⟨.inl rfl, ?_⟩ | refine ⟨.inr rfl, ?_⟩), ?_⟩
      refine bsplit (fun hh => ?_) (fun hh => ?_)
      · rw [if_pos hh] at st
        intro b8
        refine appO (cxg _) (e := 85) rfl (i := 4) rfl ho2 (j := 5) ((i : Int), (j : Int)) rfl rfl rfl rfl (by simp only [List.length_append]; omega) (fun o' ho' => ?_)
        refine nw (by omega) (by omega) ?_
        exact ⟨(j + 1, o'), ⟨by dsimp only; omega, by dsimp only; rw [st, ← List.append_assoc]; exact ho'⟩, by dsimp only; omega, Ent.mk (fun _ _ h => h.pick [0, 1, 2, 3, 4] rfl rfl) rfl rfl⟩
      · rw [if_neg (by rw [hh]; exact Bool.false_ne_true)] at st
        refine nw (by omega) (by omega) ?_
        exact ⟨(j + 1, o2), ⟨by dsimp only; omega, by dsimp only; rw [st]; exact ho2⟩, by dsimp only; omega, Ent.mk (fun _ _ h => h.pick [0, 1, 2, 3, 4] rfl rfl) rfl rfl⟩
    · rw [show j = L.length by omega, ← rinK_succ] at ho2
      refine nw (by omega) (by omega) ?_
      exact ⟨(i + 1, o2), ⟨by dsimp only; omega, ho2⟩, by dsimp only; omega, Ent.mk (fun _ _ h => h) rfl rfl⟩
  · rw [show i = L.length by omega] at ho1
    exact ⟨[.hp o1.h], ⟨o1, by rw [← hml]; rfl, rfl, ho1⟩, fun w' h => h.pick [0, 4] rfl rfl⟩
/-! ### the plain laws -/
theorem lbN_idx {L : List Int} (hs : L.Pairwise (· < ·)) {i : Nat} (hi : i < L.length) : lbN L L[i] = i :=
  lbN_at (by omega) (fun t h h' => List.pairwise_iff_getElem.1 hs t i h hi h') (fun t h h' => by
    by_cases he : t = i
    · subst he; exact Int.le_refl _
    · have := List.pairwise_iff_getElem.1 hs i t hi h (by omega); omega)
theorem ind_eq {E : List (Int × Int)} {L : List Int} (hE : Srt E) (hs : L.Pairwise (· < ·)) : indF E L = rinK E L L.length := by
  have rs : ∀ a k, Srt (rinRow E L a k) := fun a k => by
    unfold rinRow Srt
    rw [List.pairwise_map]
    refine List.Pairwise.filter _ (List.Pairwise.imp (fun {x y} h => ?_) (pw_range k))
    unfold elt; dsimp only; omega
  have rm : ∀ a k x, x ∈ rinRow E L a k ↔ ∃ b : Nat, b < k ∧ (L.getD a 0, L.getD b 0) ∈ E ∧ x = ((a : Int), (b : Int)) := fun a k x => by
    unfold rinRow
    simp only [List.mem_map, List.mem_filter, List.mem_range, hasF_iff]
    constructor
    · rintro ⟨b, ⟨h1, h2⟩, rfl⟩; exact ⟨b, h1, h2, rfl⟩
    · rintro ⟨b, h1, h2, rfl⟩; exact ⟨b, ⟨h1, h2⟩, rfl⟩
  have ks : ∀ a, Srt (rinK E L a) := fun a => by
    induction a with
    | zero => simp [rinK, Srt]
    | succ a ih =>
      rw [rinK_succ]
      refine List.pairwise_append.2 ⟨ih, rs a _, fun x hx y hy => ?_⟩
      unfold rinK at hx
      obtain ⟨i, hi, hx⟩ := List.mem_flatMap.1 hx
      obtain ⟨b, _, _, rfl⟩ := (rm _ _ _).1 hx
      obtain ⟨b', _, _, rfl⟩ := (rm _ _ _).1 hy
      have := List.mem_range.1 hi
      unfold elt; dsimp only; omega
  have gd : ∀ i (h : i < L.length), L.getD i 0 = L[i] := fun i h => by simp [List.getD, h]
  refine Srt.ext ?_ (ks _) fun x => ?_
  · unfold indF Srt
    rw [List.pairwise_map, List.pairwise_filter]
    refine List.Pairwise.imp (fun {e e'} h h1 h2 => ?_) hE
    unfold inL at h1 h2
    simp only [Bool.and_eq_true, decide_eq_true_eq] at h1 h2
    obtain ⟨i1, q1, r1⟩ := List.getElem_of_mem h1.1
    obtain ⟨i2, q2, r2⟩ := List.getElem_of_mem h1.2
    obtain ⟨j1, q3, r3⟩ := List.getElem_of_mem h2.1
    obtain ⟨j2, q4, r4⟩ := List.getElem_of_mem h2.2
    have lt_of : ∀ i j (hi : i < L.length) (hj : j < L.length), L[i] < L[j] → i < j := fun i j hi hj hlt => by
      refine Classical.byContradiction fun hn => ?_
      by_cases he : i = j
      · subst he; omega
      · have := List.pairwise_iff_getElem.1 hs j i hj hi (by omega); omega
    have eq_of : ∀ i j (hi : i < L.length) (hj : j < L.length), L[i] = L[j] → i = j := fun i j hi hj hq => by
      refine Classical.byContradiction fun hn => ?_
      rcases Nat.lt_or_gt_of_ne hn with h | h
      · have := List.pairwise_iff_getElem.1 hs i j hi hj h; omega
      · have := List.pairwise_iff_getElem.1 hs j i hj hi h; omega
    unfold elt at h ⊢
    dsimp only
    have k1 : lbN L e.1 = i1 := by rw [← r1]; exact lbN_idx hs q1
    have k2 : lbN L e.2 = i2 := by rw [← r2]; exact lbN_idx hs q2
    have k3 : lbN L e'.1 = j1 := by rw [← r3]; exact lbN_idx hs q3
    have k4 : lbN L e'.2 = j2 := by rw [← r4]; exact lbN_idx hs q4
    rw [k1, k2, k3, k4]
    rcases h with h | ⟨h, h'⟩
    · left; have := lt_of _ _ q1 q3 (by rw [r1, r3]; exact h); omega
    · right; exact ⟨by have := eq_of _ _ q1 q3 (by rw [r1, r3]; exact h); omega, by have := lt_of _ _ q2 q4 (by rw [r2, r4]; exact h'); omega⟩
  · unfold indF rinK
    simp only [List.mem_map, List.mem_filter, List.mem_flatMap, List.mem_range]
    constructor
    · rintro ⟨e, ⟨he, hin⟩, rfl⟩
      unfold inL at hin
      simp only [Bool.and_eq_true, decide_eq_true_eq] at hin
      obtain ⟨i, q1, r1⟩ := List.getElem_of_mem hin.1
      obtain ⟨j, q2, r2⟩ := List.getElem_of_mem hin.2
      refine ⟨i, q1, (rm _ _ _).2 ⟨j, q2, by rw [gd i q1, gd j q2, r1, r2]; exact he, ?_⟩⟩
      rw [← r1, ← r2, lbN_idx hs q1, lbN_idx hs q2]
    · rintro ⟨i, hi, hx⟩
      obtain ⟨j, hj, hm, rfl⟩ := (rm _ _ _).1 hx
      rw [gd i hi, gd j hj] at hm
      refine ⟨(L[i], L[j]), ⟨hm, ?_⟩, ?_⟩
      · unfold inL; rw [decide_eq_true (List.getElem_mem hi), decide_eq_true (List.getElem_mem hj)]; rfl
      · dsimp only; rw [lbN_idx hs hi, lbN_idx hs hj]
theorem rev_eq {N : Nat} {E : List (Int × Int)} (hG : Gr N E) (hE : Srt E) : rmkR N (E.map flip) = ((N : Int), revF E, 0) := by
  have hout : (E.map flip).any (outF N) = false := by
    rw [List.any_eq_false]
    intro x hx
    obtain ⟨e, he, rfl⟩ := List.mem_map.1 hx
    have := hG.rng _ he
    have h1 : beyondF N e.1 = false := by unfold beyondF; rw [decide_eq_false (by omega), decide_eq_false (by omega)]; rfl
    have h2 : beyondF N e.2 = false := by unfold beyondF; rw [decide_eq_false (by omega), decide_eq_false (by omega)]; rfl
    show ¬ (beyondF N e.2 || beyondF N e.1) = true
    rw [h1, h2]; exact Bool.false_ne_true
  have hN := hG.hN
  unfold rmkR
  rw [if_neg (by rw [hout]; simp; omega), Int.toNat_natCast]
  congr 2
  refine Srt.ext (mkF_srt N _) ?_ fun x => ?_
  · have hnd : (E.map flip).Nodup := by
      unfold List.Nodup
      rw [List.pairwise_map]
      refine List.Pairwise.imp (fun {x y} h he => ?_) hE
      unfold flip at he
      simp only [Prod.mk.injEq] at he
      unfold elt at h; omega
    have hnd2 : (revF E).Nodup := (List.mergeSort_perm _ _).nodup_iff.2 hnd
    have hpw := sortF_pw (E.map flip)
    refine List.Pairwise.imp₂ (fun {x y} h1 h2 => ?_) hpw hnd2
    exact Classical.byContradiction fun hn => h2 (elt_tri hn h1)
  · rw [mkF_mem, show revF E = sortF (E.map flip) from rfl, sortF_mem]
    refine ⟨fun h => h.1, fun h => ⟨h, ?_⟩⟩
    have := List.any_eq_false.1 hout x h
    simpa using this
end Go.Proofs.Ytdjhgcpmipglfaa
