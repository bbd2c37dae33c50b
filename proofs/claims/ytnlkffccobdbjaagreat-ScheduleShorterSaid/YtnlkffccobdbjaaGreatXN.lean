/- Parts of one proof, joined: Wn, Wo, Wp. No condition of its own. -/
import Derived.Test.YtnlkffccobdbjaaGreatXM
import Derived.Test.YtnlkffccobdbjaaGreatXD
namespace Go.Proofs.YtnlkffccobdbjaaGreat
open Go Go.RowKit Go.Dw
section
variable {α : Type} (lt : α → α → Bool)
def insR (x : α) : List α → List α
  | [] => [x]
  | y :: r => if lt x y then y :: insR x r else x :: y :: r
def srtR (L : List α) : List α := L.foldl (fun R x => insR lt x R) []
/-- insertion sort -/
def srtI (L : List α) : List α := (srtR lt L).reverse
/-- the data before the insertion of element i -/
def srtK (L : List α) (i : Nat) : List α := (srtR lt (L.take i)).reverse ++ L.drop i
theorem insR_perm (x : α) : ∀ R : List α, (insR lt x R).Perm (x :: R)
  | [] => .refl _
  | y :: r => by
    unfold insR
    split
    · exact ((insR_perm x r).cons y).trans (.swap x y r)
    · exact .refl _
theorem srtR_snoc (L : List α) (x : α) : srtR lt (L ++ [x]) = insR lt x (srtR lt L) := by unfold srtR; rw [List.foldl_append]; rfl
theorem foldR_perm : ∀ (L R : List α), (L.foldl (fun R x => insR lt x R) R).Perm (R ++ L)
  | [], R => by simp
  | x :: L, R => by
    rw [List.foldl_cons]
    refine (foldR_perm L _).trans ?_
    refine ((insR_perm lt x R).append_right L).trans ?_
    simpa using (List.perm_middle (l₁ := R) (l₂ := L) (a := x)).symm
theorem srtI_perm (L : List α) : (srtI lt L).Perm L := by
  unfold srtI srtR
  exact (List.reverse_perm _).trans (by simpa using foldR_perm lt L [])
theorem srtI_len (L : List α) : (srtI lt L).length = L.length := (srtI_perm lt L).length_eq
theorem srtK_perm (L : List α) (i : Nat) : (srtK lt L i).Perm L := by
  unfold srtK
  have := (srtI_perm lt (L.take i)).append_right (L.drop i)
  rw [List.take_append_drop] at this
  exact this
theorem srtK_len (L : List α) (i : Nat) : (srtK lt L i).length = L.length := (srtK_perm lt L i).length_eq
theorem srtK_one (L : List α) : srtK lt L 1 = L := by
  cases L <;> rfl
theorem srtK_end {L : List α} {i : Nat} (h : L.length ≤ i) : srtK lt L i = srtI lt L := by
  unfold srtK srtI; rw [List.take_of_length_le h, List.drop_eq_nil_of_le h, List.append_nil]
/-- the insertion of element i stands at place j -/
def InsI (L : List α) (i j : Nat) (M : List α) : Prop := ∃ (_ : i < L.length) (A B : List α), M = B.reverse ++ L[i] :: (A.reverse ++ L.drop (i + 1)) ∧ srtR lt (L.take i) = A ++ B ∧ insR lt L[i] (A ++ B) = A ++ insR lt L[i] B ∧ j = B.length
variable {lt}
theorem InsI.start {L : List α} {i : Nat} (h : i < L.length) : InsI lt L i i (srtK lt L i) := by
  refine ⟨h, [], srtR lt (L.take i), ?_, rfl, rfl, ?_⟩
  · unfold srtK; rw [List.drop_eq_getElem_cons h]; rfl
  · have := srtI_len lt (L.take i); unfold srtI at this; rw [List.length_reverse, List.length_take] at this; omega
theorem InsI.perm {L : List α} {i j : Nat} {M : List α} (h : InsI lt L i j M) : M.Perm L := by
  obtain ⟨hi, A, B, rfl, h1, -, -⟩ := h
  have e1 : (A ++ B).Perm (L.take i) := by rw [← h1]; have := srtI_perm lt (L.take i); unfold srtI at this; exact (List.reverse_perm _).symm.trans this
  have e2 : L.Perm (L.take i ++ L[i] :: L.drop (i + 1)) := by rw [← List.drop_eq_getElem_cons hi, List.take_append_drop]
  refine List.Perm.trans ?_ e2.symm
  refine List.Perm.trans ?_ (e1.append_right (L[i] :: L.drop (i + 1)))
  have e3 : (B.reverse ++ L[i] :: (A.reverse ++ L.drop (i + 1))).Perm (B.reverse ++ (A.reverse ++ L[i] :: L.drop (i + 1))) := List.Perm.append_left _ (List.perm_middle.symm)
  refine e3.trans ?_
  rw [← List.append_assoc]
  refine List.Perm.append_right _ ?_
  exact ((List.reverse_perm B).append (List.reverse_perm A)).trans List.perm_append_comm
theorem InsI.len {L : List α} {i j : Nat} {M : List α} (h : InsI lt L i j M) : M.length = L.length := h.perm.length_eq
theorem InsI.rng {L : List α} {i j : Nat} {M : List α} (h : InsI lt L i j M) : j ≤ i ∧ i < L.length := by
  obtain ⟨hi, A, B, -, h1, -, rfl⟩ := h
  have := srtI_len lt (L.take i)
  unfold srtI at this
  rw [List.length_reverse, h1, List.length_take, List.length_append] at this
  omega
theorem InsI.zero {L : List α} {i : Nat} {M : List α} (h : InsI lt L i 0 M) : M = srtK lt L (i + 1) := by
  obtain ⟨hi, A, B, rfl, h1, h2, h3⟩ := h
  obtain rfl : B = [] := List.eq_nil_of_length_eq_zero h3.symm
  unfold srtK
  rw [List.take_succ_eq_append_getElem hi, srtR_snoc, h1, h2]
  simp [insR]
theorem InsI.get {L : List α} {i j : Nat} {M : List α} (h : InsI lt L i (j + 1) M) : ∃ (h1 : j + 1 < M.length) (h0 : j < M.length),
    (lt M[j + 1] M[j] = true → InsI lt L i j ((M.set (j + 1) M[j]).set j M[j + 1])) ∧ (lt M[j + 1] M[j] = false → M = srtK lt L (i + 1)) := by
  obtain ⟨hi, A, B, rfl, h1, h2, h3⟩ := h
  obtain ⟨b, B, rfl⟩ : ∃ b B', B = b :: B' := by cases B with | nil => cases h3 | cons b B => exact ⟨b, B, rfl⟩
  have hj : j = B.length := by simpa using h3
  subst hj
  obtain ⟨x, hx⟩ : ∃ x, x = L[i] := ⟨_, rfl⟩
  obtain ⟨S, hS⟩ : ∃ S, S = A.reverse ++ L.drop (i + 1) := ⟨_, rfl⟩
  have e : (b :: B).reverse ++ L[i] :: (A.reverse ++ L.drop (i + 1)) = B.reverse ++ b :: x :: S := by rw [hx, hS]; simp
  simp only [e]
  have g1 : (B.reverse ++ b :: x :: S)[B.length + 1]'(by simp) = x := by rw [List.getElem_append_right (by simp)]; simp
  have g0 : (B.reverse ++ b :: x :: S)[B.length]'(by simp) = b := by rw [List.getElem_append_right (by simp)]; simp
  refine ⟨by simp, by simp, ?_, ?_⟩
  · intro hl
    rw [g1, g0] at *
    refine ⟨hi, A ++ [b], B, ?_, ?_, ?_, rfl⟩
    · rw [List.set_append_right _ _ (by simp), List.set_append_right _ _ (by simp)]
      simp only [List.length_reverse, Nat.add_sub_cancel_left, Nat.sub_self, List.set_cons_zero, List.set_cons_succ, hS, ← hx]
      simp
    · rw [h1]; simp
    · rw [List.append_assoc]
      show insR lt L[i] (A ++ (b :: B)) = _
      rw [h2, ← hx]
      simp [insR, hl]
  · intro hl
    rw [g1, g0] at hl
    unfold srtK
    rw [List.take_succ_eq_append_getElem hi, srtR_snoc, h1, h2, ← hx]
    simp [insR, hl, hS]
end
set_option maxHeartbeats 1000000 in
set_option maxRecDepth 10000 in
theorem insSort_spec {o : Dw.Os} {L : List Int} (w : World) (hin : o.h.In w) (ho : OwnO fI 3 1 o L) (hl : L.length < 1000000) :
    CallsE Tryz.prog 133 #[o.v, .int .i64 0, .int .i64 o.n] w (RetM w o.h fun v h' cs => v = .tuple #[] ∧ cs = [] ∧ OwnO fI 3 1 ⟨o.a, o.n, o.c, h'⟩ (srtI (fun a b : Int => decide (a < b)) L)) := by
  have hn := ho.len
  refine enterM (X := cx 49) (cxg _) (args := [o.v, .int .i64 0, .int .i64 o.n]) hin [] Tryz.func133 rfl rfl rfl rfl rfl ?_
  obtain ⟨c0, hc0⟩ : ∃ c0, c0 = (Hp.whole w).minus o.h := ⟨_, rfl⟩
  rw [← hc0]
  obtain ⟨lt, hlt0⟩ : ∃ lt, lt = (fun a b : Int => decide (a < b)) := ⟨_, rfl⟩
  rw [← hlt0]
  refine nw (by omega) (by omega) ?_
  refine NeedL.mk (Nat × Dw.Os) (fun g => [(0, .v o.v), (1, .v (.int .i64 0)), (2, .v (.int .i64 o.n)), (6, .v (.int .i64 g.1))]) (fun g => [.hp c0, .hp g.2.h])
    (fun g => (1 ≤ g.1 ∧ (g.1 ≤ o.n ∨ g.1 = 1)) ∧ (g.2.a = o.a ∧ g.2.n = o.n ∧ g.2.c = o.c) ∧ OwnO fI 3 1 g.2 (srtK lt L g.1)) (fun g => o.n - g.1) (1, o) ⟨⟨Nat.le_refl _, .inr rfl⟩, ⟨rfl, rfl, rfl⟩, by dsimp only; rw [srtK_one]; exact ho⟩ (Ent.mk (fun _ _ h => h) rfl rfl) ?_
  rintro ⟨i, o1⟩ ⟨⟨hi1, hi2⟩, ⟨e1, e2, e3⟩, ho1⟩
  dsimp only at *
  obtain ⟨oa, on, oc, h1⟩ := o1
  simp only at e1 e2 e3
  subst e1 e2 e3
  refine bsplitd (fun hlt => ?_) (fun hge => ?_)
  · have hil : i < L.length := by omega
    refine NeedL.mk (Nat × Dw.Os × List Int) (fun g => [(0, .v o.v), (1, .v (.int .i64 0)), (2, .v (.int .i64 o.n)), (6, .v (.int .i64 i)), (7, .v (.int .i64 g.1))]) (fun g => [.hp c0, .hp g.2.1.h])
      (fun g => InsI lt L i g.1 g.2.2 ∧ (g.2.1.a = o.a ∧ g.2.1.n = o.n ∧ g.2.1.c = o.c) ∧ OwnO fI 3 1 g.2.1 g.2.2) (fun g => g.1) (i, ⟨o.a, o.n, o.c, h1⟩, srtK lt L i) ⟨InsI.start hil, ⟨rfl, rfl, rfl⟩, ho1⟩ (Ent.mk (fun _ _ h => h) rfl rfl) ?_
    clear ho1
    rintro ⟨j, o1, M⟩ ⟨hI, ⟨e1, e2, e3⟩, ho1⟩
    dsimp only at *
    obtain ⟨oa, on, oc, h2⟩ := o1
    simp only at e1 e2 e3
    subst e1 e2 e3
    have hr := hI.rng
    have hML := hI.len
    have hs := OwnO.sl (f := fI) (fun _ => rfl) (by decide) ho1
    have fin : M = srtK lt L (i + 1) → OwnO fI 3 1 ⟨o.a, o.n, o.c, h2⟩ (srtK lt L (i + 1)) := fun e => e ▸ ho1
    refine NeedD.cut Unit (fun _ => [(0, .v o.v), (1, .v (.int .i64 0)), (2, .v (.int .i64 o.n)), (6, .v (.int .i64 i)), (7, .v (.int .i64 j)), (30, .v (.bool (if h : 0 < j ∧ j < M.length then lt M[j] (M[j - 1]'(by omega)) else false)))]) (fun _ => [.hp c0, .hp h2]) (fun _ => True) (NeedD.by_order (cxg _) (.take 0 <| .take 1 <| .take 2 <| .take 3 <| .take 4 <| .take 5 <| .take 6 <| .take 7 <| .take 8 <| .take 9 <| .take 10 <| .take 11 <| .take 12 <| .run 13 <| .take 14 <| .done) (by kernel_rfl) ?_) ?_
    · refine bsplitd (fun g1 => ?_) (fun g1 => ?_)
      · have hj1 : j < M.length := by omega
        refine idx (cxg _) (e := 3) rfl hs j rfl hj1 (fun b8 o8 cs hcs hR hcell => ?_)
        subst hR
        refine ld1 (cxg _) (i := 1) rfl (hcell 0 _ rfl) rfl ?_
        refine nw (by omega) (by omega) ?_
        refine idx (cxg _) (e := 3) rfl hs (j - 1) (by omega) (by omega) (fun b9 o9 cs hcs hR hcell => ?_)
        subst hR
        refine ld1 (cxg _) (i := 1) rfl (hcell 0 _ rfl) rfl ?_
        refine callV _ (fun w' hm => less_spec _ _ w') ?_
        refine ⟨(by repeat first | exact trivial | refine ⟨.inl rfl, ?_⟩ | refine ⟨.inr rfl, ?_⟩), ?_⟩
        exact ⟨(), trivial, Ent.mk (fun _ _ h => h) (by rw [dif_pos ⟨by omega, hj1⟩, hlt0]; rfl) rfl⟩
      · refine ⟨(by repeat first | exact trivial | refine ⟨.inl rfl, ?_⟩ | refine ⟨.inr rfl, ?_⟩), ?_⟩
        exact ⟨(), trivial, Ent.mk (fun _ _ h => h) (by rw [dif_neg (by omega), decide_eq_false g1]; rfl) rfl⟩
    rintro ⟨⟩ _ _
    dsimp only
    refine bsplit (fun hc1 => ?_) (fun hc1 => ?_)
    · have hj0 : 0 < j ∧ j < M.length := by
        by_cases h : 0 < j ∧ j < M.length
        · exact h
        · rw [dif_neg h] at hc1; cases hc1
      rw [dif_pos hj0] at hc1
      obtain ⟨k, rfl⟩ : ∃ k, j = k + 1 := ⟨j - 1, by omega⟩
      obtain ⟨q1, q0, q2, -⟩ := hI.get
      have hI2 := q2 hc1
      obtain ⟨x, hx⟩ : ∃ x, x = M[k + 1] := ⟨_, rfl⟩
      obtain ⟨y, hy⟩ : ∃ y, y = M[k] := ⟨_, rfl⟩
      rw [← hx, ← hy] at hI2
      have q0' : k < (M.set (k + 1) y).length := by rw [List.length_set]; exact q0
      refine NeedD.cut Dw.Os (fun g => [(0, .v o.v), (1, .v (.int .i64 0)), (2, .v (.int .i64 o.n)), (6, .v (.int .i64 i)), (7, .v (.int .i64 ((k + 1 : Nat) : Int)))]) (fun g => [.hp c0, .hp g.h]) (fun g => (g.a = o.a ∧ g.n = o.n ∧ g.c = o.c) ∧ OwnO fI 3 1 g ((M.set (k + 1) y).set k x)) (NeedD.by_order0 (cxg _) (.take 0 <| .take 1 <| .take 2 <| .take 3 <| .take 4 <| .take 5 <| .take 6 <| .take 7 <| .take 8 <| .take 10 <| .take 11 <| .take 12 <| .two 9 (.run 13 <| .take 14 <| .run 15 <| .run 16 <| .run 17 <| .done) 13 (.run 9 <| .take 14 <| .run 15 <| .run 16 <| .run 17 <| .done)) (by kernel_rfl) (subL_blank _ 1) ?_) ?_
      · refine nw (by omega) (by omega) ?_
        refine nw (by omega) (by omega) ?_
        refine idx (cxg _) (e := 3) rfl hs k (by omega) q0 (fun b8 o8 cs hcs hR hcell8 => ?_)
        subst hR
        refine idx (cxg _) (e := 3) rfl hs (k + 1) rfl q1 (fun b9 o9 cs hcs hR hcell9 => ?_)
        subst hR
        constructor
        · refine ld1 (cxg _) (i := 1) rfl (hcell8 0 _ rfl) rfl ?_
          refine ⟨(by repeat first | exact trivial | refine ⟨.inl rfl, ?_⟩ | refine ⟨.inr rfl, ?_⟩), ?_⟩
          refine ld1 (cxg _) (i := 1) rfl (hcell9 0 _ rfl) rfl ?_
          refine ⟨(by repeat first | exact trivial | refine ⟨.inl rfl, ?_⟩ | refine ⟨.inr rfl, ?_⟩), ?_⟩
          rw [← hx, ← hy]
          refine oidx1 (cxg _) (e := 3) rfl rfl ho1 (k + 1) rfl q1 fun b7 hb7 => ?_
          refine osto (g := fun x : Int => .int .i64 x) (fun _ => rfl) (cxg _) (i := 1) rfl hb7 ho1 q1 rfl rfl y rfl rfl rfl fun o2 f1 f2 f3 ho2 => ?_
          refine ⟨(by repeat first | exact trivial | refine ⟨.inl rfl, ?_⟩ | refine ⟨.inr rfl, ?_⟩), ?_⟩
          obtain ⟨oa, on, oc, h3⟩ := o2
          simp only at f1 f2 f3
          subst f1 f2 f3
          refine oidx1 (cxg _) (e := 3) rfl rfl ho2 k (by omega) q0' fun b6 hb6 => ?_
          refine osto (g := fun x : Int => .int .i64 x) (fun _ => rfl) (cxg _) (i := 1) rfl hb6 ho2 q0' rfl rfl x rfl rfl rfl fun o2 f1 f2 f3 ho3 => ?_
          exact ⟨o2, ⟨⟨f1, f2, f3⟩, ho3⟩, Ent.mk (fun _ _ h => h) rfl rfl⟩
        · refine ld1 (cxg _) (i := 1) rfl (hcell9 0 _ rfl) rfl ?_
          refine ⟨(by repeat first | exact trivial | refine ⟨.inl rfl, ?_⟩ | refine ⟨.inr rfl, ?_⟩), ?_⟩
          refine ld1 (cxg _) (i := 1) rfl (hcell8 0 _ rfl) rfl ?_
          refine ⟨(by repeat first | exact trivial | refine ⟨.inl rfl, ?_⟩ | refine ⟨.inr rfl, ?_⟩), ?_⟩
          rw [← hx, ← hy]
          refine oidx1 (cxg _) (e := 3) rfl rfl ho1 (k + 1) rfl q1 fun b7 hb7 => ?_
          refine osto (g := fun x : Int => .int .i64 x) (fun _ => rfl) (cxg _) (i := 1) rfl hb7 ho1 q1 rfl rfl y rfl rfl rfl fun o2 f1 f2 f3 ho2 => ?_
          refine ⟨(by repeat first | exact trivial | refine ⟨.inl rfl, ?_⟩ | refine ⟨.inr rfl, ?_⟩), ?_⟩
          obtain ⟨oa, on, oc, h3⟩ := o2
          simp only at f1 f2 f3
          subst f1 f2 f3
          refine oidx1 (cxg _) (e := 3) rfl rfl ho2 k (by omega) q0' fun b6 hb6 => ?_
          refine osto (g := fun x : Int => .int .i64 x) (fun _ => rfl) (cxg _) (i := 1) rfl hb6 ho2 q0' rfl rfl x rfl rfl rfl fun o2 f1 f2 f3 ho3 => ?_
          exact ⟨o2, ⟨⟨f1, f2, f3⟩, ho3⟩, Ent.mk (fun _ _ h => h) rfl rfl⟩
      rintro o3 ⟨⟨e1, e2, e3⟩, ho3⟩ _
      dsimp only
      refine nw (by omega) (by omega) ?_
      exact ⟨(k, o3, (M.set (k + 1) y).set k x), ⟨hI2, ⟨e1, e2, e3⟩, ho3⟩, by dsimp only; omega, Ent.mk (fun _ _ h => h) (by rw [show ((k + 1 : Nat) : Int) - 1 = (k : Int) by omega]; rfl) rfl⟩
    · have hM : M = srtK lt L (i + 1) := by
        cases j with
        | zero => exact hI.zero
        | succ k =>
          obtain ⟨q1, q0, -, q3⟩ := hI.get
          rw [dif_pos ⟨by omega, q1⟩] at hc1
          exact q3 hc1
      refine nw (by omega) (by omega) ?_
      exact ⟨(i + 1, ⟨o.a, o.n, o.c, h2⟩), ⟨⟨by dsimp only; omega, .inl (by dsimp only; omega)⟩, ⟨rfl, rfl, rfl⟩, fin hM⟩, by dsimp only; omega, Ent.mk (fun _ _ h => h) rfl rfl⟩
  · have he : srtK lt L i = srtI lt L := srtK_end lt (by omega)
    rw [he] at ho1
    exact ⟨h1, [], ⟨rfl, rfl, ho1⟩, fun w' h => h⟩
end Go.Proofs.YtnlkffccobdbjaaGreat
namespace Go.Proofs.YtnlkffccobdbjaaGreat
open Go Go.RowKit Go.Dw
theorem forceL_j {l : List Value} {q : List Value → Prop} (h : q l) : forceL l q := by rw [forceL_eq]; exact h
set_option maxHeartbeats 1000000 in
set_option maxRecDepth 10000 in
theorem insSortC_spec {o : Dw.Os} {L : List Int} (gf : Nat) (cap : List Value) (cf : Int → Int → Int) (w : World) (hin : o.h.In w) (ho : OwnO fI 3 1 o L) (hl : L.length < 1000000)
    (hc : ∀ w', ((Hp.whole w).minus o.h).In w' → ∀ x ∈ L, ∀ y ∈ L, CallsE Tryz.prog gf ([] ++ [Value.int .i64 x, Value.int .i64 y] ++ cap).toArray w' (RetV w' (.int .i64 (cf x y)))) :
    CallsE Tryz.prog 144 #[o.v, .int .i64 0, .int .i64 o.n, .func (.func gf) ⟨[]⟩ ⟨cap⟩] w (RetM w o.h fun v h' cs => v = .tuple #[] ∧ cs = [] ∧ OwnO fI 3 1 ⟨o.a, o.n, o.c, h'⟩ (srtI (fun a b : Int => decide (cf a b < 0)) L)) := by
  have hn := ho.len
  refine enterM (X := cx 53) (cxg _) (args := [o.v, .int .i64 0, .int .i64 o.n, .func (.func gf) ⟨[]⟩ ⟨cap⟩]) hin [] Tryz.func144 rfl rfl rfl rfl rfl ?_
  obtain ⟨c0, hc0⟩ : ∃ c0, c0 = (Hp.whole w).minus o.h := ⟨_, rfl⟩
  rw [← hc0] at hc ⊢
  obtain ⟨lt, hlt0⟩ : ∃ lt, lt = (fun a b : Int => decide (cf a b < 0)) := ⟨_, rfl⟩
  rw [← hlt0]
  refine nw (by omega) (by omega) ?_
  refine NeedL.mk (Nat × Dw.Os) (fun g => [(0, .v o.v), (1, .v (.int .i64 0)), (2, .v (.int .i64 o.n)), (3, .v (.func (.func gf) ⟨[]⟩ ⟨cap⟩)), (8, .v (.int .i64 g.1))]) (fun g => [.hp c0, .hp g.2.h])
    (fun g => (1 ≤ g.1 ∧ (g.1 ≤ o.n ∨ g.1 = 1)) ∧ (g.2.a = o.a ∧ g.2.n = o.n ∧ g.2.c = o.c) ∧ OwnO fI 3 1 g.2 (srtK lt L g.1)) (fun g => o.n - g.1) (1, o) ⟨⟨Nat.le_refl _, .inr rfl⟩, ⟨rfl, rfl, rfl⟩, by dsimp only; rw [srtK_one]; exact ho⟩ (Ent.mk (fun _ _ h => h) rfl rfl) ?_
  rintro ⟨i, o1⟩ ⟨⟨hi1, hi2⟩, ⟨e1, e2, e3⟩, ho1⟩
  dsimp only at *
  obtain ⟨oa, on, oc, h1⟩ := o1
  simp only at e1 e2 e3
  subst e1 e2 e3
  refine bsplitd (fun hlt => ?_) (fun hge => ?_)
  · have hil : i < L.length := by omega
    refine NeedL.mk (Nat × Dw.Os × List Int) (fun g => [(0, .v o.v), (1, .v (.int .i64 0)), (2, .v (.int .i64 o.n)), (3, .v (.func (.func gf) ⟨[]⟩ ⟨cap⟩)), (8, .v (.int .i64 i)), (9, .v (.int .i64 g.1))]) (fun g => [.hp c0, .hp g.2.1.h])
      (fun g => InsI lt L i g.1 g.2.2 ∧ (g.2.1.a = o.a ∧ g.2.1.n = o.n ∧ g.2.1.c = o.c) ∧ OwnO fI 3 1 g.2.1 g.2.2) (fun g => g.1) (i, ⟨o.a, o.n, o.c, h1⟩, srtK lt L i) ⟨InsI.start hil, ⟨rfl, rfl, rfl⟩, ho1⟩ (Ent.mk (fun _ _ h => h) rfl rfl) ?_
    clear ho1
    rintro ⟨j, o1, M⟩ ⟨hI, ⟨e1, e2, e3⟩, ho1⟩
    dsimp only at *
    obtain ⟨oa, on, oc, h2⟩ := o1
    simp only at e1 e2 e3
    subst e1 e2 e3
    have hr := hI.rng
    have hML := hI.len
    have hs := OwnO.sl (f := fI) (fun _ => rfl) (by decide) ho1
    have fin : M = srtK lt L (i + 1) → OwnO fI 3 1 ⟨o.a, o.n, o.c, h2⟩ (srtK lt L (i + 1)) := fun e => e ▸ ho1
    refine NeedD.cut Unit (fun _ => [(0, .v o.v), (1, .v (.int .i64 0)), (2, .v (.int .i64 o.n)), (3, .v (.func (.func gf) ⟨[]⟩ ⟨cap⟩)), (8, .v (.int .i64 i)), (9, .v (.int .i64 j)), (34, .v (.bool (if h : 0 < j ∧ j < M.length then lt M[j] (M[j - 1]'(by omega)) else false)))]) (fun _ => [.hp c0, .hp h2]) (fun _ => True) (NeedD.by_order (cxg _) (.take 0 <| .take 1 <| .take 2 <| .take 3 <| .take 4 <| .take 5 <| .take 6 <| .take 7 <| .take 8 <| .take 9 <| .take 10 <| .take 11 <| .take 12 <| .take 13 <| .run 14 <| .take 15 <| .take 16 <| .done) (by kernel_rfl) ?_) ?_
    · refine bsplitd (fun g1 => ?_) (fun g1 => ?_)
      · have hj1 : j < M.length := by omega
        refine idx (cxg _) (e := 3) rfl hs j rfl hj1 (fun b8 o8 cs hcs hR hcell => ?_)
        subst hR
        refine ld1 (cxg _) (i := 1) rfl (hcell 0 _ rfl) rfl ?_
        refine nw (by omega) (by omega) ?_
        refine idx (cxg _) (e := 3) rfl hs (j - 1) (by omega) (by omega) (fun b9 o9 cs hcs hR hcell => ?_)
        subst hR
        refine ld1 (cxg _) (i := 1) rfl (hcell 0 _ rfl) rfl ?_
        refine forceL_j ?_
        refine callV _ (fun w' hm => hc w' (hm 0 _ rfl) _ (hI.perm.mem_iff.1 (List.getElem_mem hj1)) _ (hI.perm.mem_iff.1 (List.getElem_mem (by omega)))) ?_
        refine ⟨(by repeat first | exact trivial | refine ⟨.inl rfl, ?_⟩ | refine ⟨.inr rfl, ?_⟩), ?_⟩
        exact ⟨(), trivial, Ent.mk (fun _ _ h => h) (by rw [dif_pos ⟨by omega, hj1⟩, hlt0]; rfl) rfl⟩
      · refine ⟨(by repeat first | exact trivial | refine ⟨.inl rfl, ?_⟩ | refine ⟨.inr rfl, ?_⟩), ?_⟩
        exact ⟨(), trivial, Ent.mk (fun _ _ h => h) (by rw [dif_neg (by omega), decide_eq_false g1]; rfl) rfl⟩
    rintro ⟨⟩ _ _
    dsimp only
    refine bsplit (fun hc1 => ?_) (fun hc1 => ?_)
    · have hj0 : 0 < j ∧ j < M.length := by
        by_cases h : 0 < j ∧ j < M.length
        · exact h
        · rw [dif_neg h] at hc1; cases hc1
      rw [dif_pos hj0] at hc1
      obtain ⟨k, rfl⟩ : ∃ k, j = k + 1 := ⟨j - 1, by omega⟩
      obtain ⟨q1, q0, q2, -⟩ := hI.get
      have hI2 := q2 hc1
      obtain ⟨x, hx⟩ : ∃ x, x = M[k + 1] := ⟨_, rfl⟩
      obtain ⟨y, hy⟩ : ∃ y, y = M[k] := ⟨_, rfl⟩
      rw [← hx, ← hy] at hI2
      have q0' : k < (M.set (k + 1) y).length := by rw [List.length_set]; exact q0
      refine NeedD.cut Dw.Os (fun g => [(0, .v o.v), (1, .v (.int .i64 0)), (2, .v (.int .i64 o.n)), (3, .v (.func (.func gf) ⟨[]⟩ ⟨cap⟩)), (8, .v (.int .i64 i)), (9, .v (.int .i64 ((k + 1 : Nat) : Int)))]) (fun g => [.hp c0, .hp g.h]) (fun g => (g.a = o.a ∧ g.n = o.n ∧ g.c = o.c) ∧ OwnO fI 3 1 g ((M.set (k + 1) y).set k x)) (NeedD.by_order0 (cxg _) (.take 0 <| .take 1 <| .take 2 <| .take 3 <| .take 4 <| .take 5 <| .take 6 <| .take 7 <| .take 8 <| .take 10 <| .take 11 <| .take 12 <| .two 9 (.run 13 <| .take 14 <| .run 15 <| .run 16 <| .run 17 <| .done) 13 (.run 9 <| .take 14 <| .run 15 <| .run 16 <| .run 17 <| .done)) (by kernel_rfl) (subL_blank _ 1) ?_) ?_
      · refine nw (by omega) (by omega) ?_
        refine nw (by omega) (by omega) ?_
        refine idx (cxg _) (e := 3) rfl hs k (by omega) q0 (fun b8 o8 cs hcs hR hcell8 => ?_)
        subst hR
        refine idx (cxg _) (e := 3) rfl hs (k + 1) rfl q1 (fun b9 o9 cs hcs hR hcell9 => ?_)
        subst hR
        constructor
        · refine ld1 (cxg _) (i := 1) rfl (hcell8 0 _ rfl) rfl ?_
          refine ⟨(by repeat first | exact trivial | refine ⟨.inl rfl, ?_⟩ | refine ⟨.inr rfl, ?_⟩), ?_⟩
          refine ld1 (cxg _) (i := 1) rfl (hcell9 0 _ rfl) rfl ?_
          refine ⟨(by repeat first | exact trivial | refine ⟨.inl rfl, ?_⟩ | refine ⟨.inr rfl, ?_⟩), ?_⟩
          rw [← hx, ← hy]
          refine oidx1 (cxg _) (e := 3) rfl rfl ho1 (k + 1) rfl q1 fun b7 hb7 => ?_
          refine osto (g := fun x : Int => .int .i64 x) (fun _ => rfl) (cxg _) (i := 1) rfl hb7 ho1 q1 rfl rfl y rfl rfl rfl fun o2 f1 f2 f3 ho2 => ?_
          refine ⟨(by repeat first | exact trivial | refine ⟨.inl rfl, ?_⟩ | refine ⟨.inr rfl, ?_⟩), ?_⟩
          obtain ⟨oa, on, oc, h3⟩ := o2
          simp only at f1 f2 f3
          subst f1 f2 f3
          refine oidx1 (cxg _) (e := 3) rfl rfl ho2 k (by omega) q0' fun b6 hb6 => ?_
          refine osto (g := fun x : Int => .int .i64 x) (fun _ => rfl) (cxg _) (i := 1) rfl hb6 ho2 q0' rfl rfl x rfl rfl rfl fun o2 f1 f2 f3 ho3 => ?_
          exact ⟨o2, ⟨⟨f1, f2, f3⟩, ho3⟩, Ent.mk (fun _ _ h => h) rfl rfl⟩
        · refine ld1 (cxg _) (i := 1) rfl (hcell9 0 _ rfl) rfl ?_
          refine ⟨(by repeat first | exact trivial | refine ⟨.inl rfl, ?_⟩ | refine ⟨.inr rfl, ?_⟩), ?_⟩
          refine ld1 (cxg _) (i := 1) rfl (hcell8 0 _ rfl) rfl ?_
          refine ⟨(by repeat first | exact trivial | refine ⟨.inl rfl, ?_⟩ | refine ⟨.inr rfl, ?_⟩), ?_⟩
          rw [← hx, ← hy]
          refine oidx1 (cxg _) (e := 3) rfl rfl ho1 (k + 1) rfl q1 fun b7 hb7 => ?_
          refine osto (g := fun x : Int => .int .i64 x) (fun _ => rfl) (cxg _) (i := 1) rfl hb7 ho1 q1 rfl rfl y rfl rfl rfl fun o2 f1 f2 f3 ho2 => ?_
          refine ⟨(by repeat first | exact trivial | refine ⟨.inl rfl, ?_⟩ | refine ⟨.inr rfl, ?_⟩), ?_⟩
          obtain ⟨oa, on, oc, h3⟩ := o2
          simp only at f1 f2 f3
          subst f1 f2 f3
          refine oidx1 (cxg _) (e := 3) rfl rfl ho2 k (by omega) q0' fun b6 hb6 => ?_
          refine osto (g := fun x : Int => .int .i64 x) (fun _ => rfl) (cxg _) (i := 1) rfl hb6 ho2 q0' rfl rfl x rfl rfl rfl fun o2 f1 f2 f3 ho3 => ?_
          exact ⟨o2, ⟨⟨f1, f2, f3⟩, ho3⟩, Ent.mk (fun _ _ h => h) rfl rfl⟩
      rintro o3 ⟨⟨e1, e2, e3⟩, ho3⟩ _
      dsimp only
      refine nw (by omega) (by omega) ?_
      exact ⟨(k, o3, (M.set (k + 1) y).set k x), ⟨hI2, ⟨e1, e2, e3⟩, ho3⟩, by dsimp only; omega, Ent.mk (fun _ _ h => h) (by rw [show ((k + 1 : Nat) : Int) - 1 = (k : Int) by omega]; rfl) rfl⟩
    · have hM : M = srtK lt L (i + 1) := by
        cases j with
        | zero => exact hI.zero
        | succ k =>
          obtain ⟨q1, q0, -, q3⟩ := hI.get
          rw [dif_pos ⟨by omega, q1⟩] at hc1
          exact q3 hc1
      refine nw (by omega) (by omega) ?_
      exact ⟨(i + 1, ⟨o.a, o.n, o.c, h2⟩), ⟨⟨by dsimp only; omega, .inl (by dsimp only; omega)⟩, ⟨rfl, rfl, rfl⟩, fin hM⟩, by dsimp only; omega, Ent.mk (fun _ _ h => h) rfl rfl⟩
  · have he : srtK lt L i = srtI lt L := srtK_end lt (by omega)
    rw [he] at ho1
    exact ⟨h1, [], ⟨rfl, rfl, ho1⟩, fun w' h => h⟩
set_option maxHeartbeats 1000000 in
set_option maxRecDepth 10000 in
theorem insSortJ_spec {o : Dw.Os} {L : List Jb} (gf : Nat) (cap : List Value) (cf : Jb → Jb → Int) (w : World) (hin : o.h.In w) (ho : OwnO fJ 52 3 o L) (hl : L.length < 1000000)
    (hc : ∀ w', ((Hp.whole w).minus o.h).In w' → ∀ x ∈ L, ∀ y ∈ L, CallsE Tryz.prog gf ([] ++ [Value.agg (fJ x).toArray, Value.agg (fJ y).toArray] ++ cap).toArray w' (RetV w' (.int .i64 (cf x y)))) :
    CallsE Tryz.prog 151 #[o.v, .int .i64 0, .int .i64 o.n, .func (.func gf) ⟨[]⟩ ⟨cap⟩] w (RetM w o.h fun v h' cs => v = .tuple #[] ∧ cs = [] ∧ OwnO fJ 52 3 ⟨o.a, o.n, o.c, h'⟩ (srtI (fun a b : Jb => decide (cf a b < 0)) L)) := by
  have hn := ho.len
  refine enterM (X := cx 53) (cxg _) (args := [o.v, .int .i64 0, .int .i64 o.n, .func (.func gf) ⟨[]⟩ ⟨cap⟩]) hin [] Tryz.func151 rfl rfl rfl rfl rfl ?_
  obtain ⟨c0, hc0⟩ : ∃ c0, c0 = (Hp.whole w).minus o.h := ⟨_, rfl⟩
  rw [← hc0] at hc ⊢
  obtain ⟨lt, hlt0⟩ : ∃ lt, lt = (fun a b : Jb => decide (cf a b < 0)) := ⟨_, rfl⟩
  rw [← hlt0]
  refine nw (by omega) (by omega) ?_
  refine NeedL.mk (Nat × Dw.Os) (fun g => [(0, .v o.v), (1, .v (.int .i64 0)), (2, .v (.int .i64 o.n)), (3, .v (.func (.func gf) ⟨[]⟩ ⟨cap⟩)), (8, .v (.int .i64 g.1))]) (fun g => [.hp c0, .hp g.2.h])
    (fun g => (1 ≤ g.1 ∧ (g.1 ≤ o.n ∨ g.1 = 1)) ∧ (g.2.a = o.a ∧ g.2.n = o.n ∧ g.2.c = o.c) ∧ OwnO fJ 52 3 g.2 (srtK lt L g.1)) (fun g => o.n - g.1) (1, o) ⟨⟨Nat.le_refl _, .inr rfl⟩, ⟨rfl, rfl, rfl⟩, by dsimp only; rw [srtK_one]; exact ho⟩ (Ent.mk (fun _ _ h => h) rfl rfl) ?_
  rintro ⟨i, o1⟩ ⟨⟨hi1, hi2⟩, ⟨e1, e2, e3⟩, ho1⟩
  dsimp only at *
  obtain ⟨oa, on, oc, h1⟩ := o1
  simp only at e1 e2 e3
  subst e1 e2 e3
  refine bsplitd (fun hlt => ?_) (fun hge => ?_)
  · have hil : i < L.length := by omega
    refine NeedL.mk (Nat × Dw.Os × List Jb) (fun g => [(0, .v o.v), (1, .v (.int .i64 0)), (2, .v (.int .i64 o.n)), (3, .v (.func (.func gf) ⟨[]⟩ ⟨cap⟩)), (8, .v (.int .i64 i)), (9, .v (.int .i64 g.1))]) (fun g => [.hp c0, .hp g.2.1.h])
      (fun g => InsI lt L i g.1 g.2.2 ∧ (g.2.1.a = o.a ∧ g.2.1.n = o.n ∧ g.2.1.c = o.c) ∧ OwnO fJ 52 3 g.2.1 g.2.2) (fun g => g.1) (i, ⟨o.a, o.n, o.c, h1⟩, srtK lt L i) ⟨InsI.start hil, ⟨rfl, rfl, rfl⟩, ho1⟩ (Ent.mk (fun _ _ h => h) rfl rfl) ?_
    clear ho1
    rintro ⟨j, o1, M⟩ ⟨hI, ⟨e1, e2, e3⟩, ho1⟩
    dsimp only at *
    obtain ⟨oa, on, oc, h2⟩ := o1
    simp only at e1 e2 e3
    subst e1 e2 e3
    have hr := hI.rng
    have hML := hI.len
    have hs := OwnO.sl (f := fJ) (fun _ => rfl) (by decide) ho1
    have fin : M = srtK lt L (i + 1) → OwnO fJ 52 3 ⟨o.a, o.n, o.c, h2⟩ (srtK lt L (i + 1)) := fun e => e ▸ ho1
    refine NeedD.cut Unit (fun _ => [(0, .v o.v), (1, .v (.int .i64 0)), (2, .v (.int .i64 o.n)), (3, .v (.func (.func gf) ⟨[]⟩ ⟨cap⟩)), (8, .v (.int .i64 i)), (9, .v (.int .i64 j)), (34, .v (.bool (if h : 0 < j ∧ j < M.length then lt M[j] (M[j - 1]'(by omega)) else false)))]) (fun _ => [.hp c0, .hp h2]) (fun _ => True) (NeedD.by_order (cxg _) (.take 0 <| .take 1 <| .take 2 <| .take 3 <| .take 4 <| .take 5 <| .take 6 <| .take 7 <| .take 8 <| .take 9 <| .take 10 <| .take 11 <| .take 12 <| .take 13 <| .run 14 <| .take 15 <| .take 16 <| .done) (by kernel_rfl) ?_) ?_
    · refine bsplitd (fun g1 => ?_) (fun g1 => ?_)
      · have hj1 : j < M.length := by omega
        refine idx (cxg _) (e := 52) rfl hs j rfl hj1 (fun b8 o8 cs hcs hR hcell => ?_)
        subst hR
        refine ldn (cxg _) (i := 1) rfl hcell rfl ?_
        refine nw (by omega) (by omega) ?_
        refine idx (cxg _) (e := 52) rfl hs (j - 1) (by omega) (by omega) (fun b9 o9 cs hcs hR hcell => ?_)
        subst hR
        refine ldn (cxg _) (i := 1) rfl hcell rfl ?_
        refine forceL_j ?_
        refine callV _ (fun w' hm => hc w' (hm 0 _ rfl) _ (hI.perm.mem_iff.1 (List.getElem_mem hj1)) _ (hI.perm.mem_iff.1 (List.getElem_mem (by omega)))) ?_
        refine ⟨(by repeat first | exact trivial | refine ⟨.inl rfl, ?_⟩ | refine ⟨.inr rfl, ?_⟩), ?_⟩
        exact ⟨(), trivial, Ent.mk (fun _ _ h => h) (by rw [dif_pos ⟨by omega, hj1⟩, hlt0]; rfl) rfl⟩
      · refine ⟨(by repeat first | exact trivial | refine ⟨.inl rfl, ?_⟩ | refine ⟨.inr rfl, ?_⟩), ?_⟩
        exact ⟨(), trivial, Ent.mk (fun _ _ h => h) (by rw [dif_neg (by omega), decide_eq_false g1]; rfl) rfl⟩
    rintro ⟨⟩ _ _
    dsimp only
    refine bsplit (fun hc1 => ?_) (fun hc1 => ?_)
    · have hj0 : 0 < j ∧ j < M.length := by
        by_cases h : 0 < j ∧ j < M.length
        · exact h
        · rw [dif_neg h] at hc1; cases hc1
      rw [dif_pos hj0] at hc1
      obtain ⟨k, rfl⟩ : ∃ k, j = k + 1 := ⟨j - 1, by omega⟩
      obtain ⟨q1, q0, q2, -⟩ := hI.get
      have hI2 := q2 hc1
      obtain ⟨x, hx⟩ : ∃ x, x = M[k + 1] := ⟨_, rfl⟩
      obtain ⟨y, hy⟩ : ∃ y, y = M[k] := ⟨_, rfl⟩
      rw [← hx, ← hy] at hI2
      have q0' : k < (M.set (k + 1) y).length := by rw [List.length_set]; exact q0
      refine NeedD.cut Dw.Os (fun g => [(0, .v o.v), (1, .v (.int .i64 0)), (2, .v (.int .i64 o.n)), (3, .v (.func (.func gf) ⟨[]⟩ ⟨cap⟩)), (8, .v (.int .i64 i)), (9, .v (.int .i64 ((k + 1 : Nat) : Int)))]) (fun g => [.hp c0, .hp g.h]) (fun g => (g.a = o.a ∧ g.n = o.n ∧ g.c = o.c) ∧ OwnO fJ 52 3 g ((M.set (k + 1) y).set k x)) (NeedD.by_order0 (cxg _) (.take 0 <| .take 1 <| .take 2 <| .take 3 <| .take 4 <| .take 5 <| .take 6 <| .take 7 <| .take 8 <| .take 10 <| .take 11 <| .take 12 <| .two 9 (.run 13 <| .take 14 <| .run 15 <| .run 16 <| .run 17 <| .done) 13 (.run 9 <| .take 14 <| .run 15 <| .run 16 <| .run 17 <| .done)) (by kernel_rfl) (subL_blank _ 1) ?_) ?_
      · refine nw (by omega) (by omega) ?_
        refine nw (by omega) (by omega) ?_
        refine idx (cxg _) (e := 52) rfl hs k (by omega) q0 (fun b8 o8 cs hcs hR hcell8 => ?_)
        subst hR
        refine idx (cxg _) (e := 52) rfl hs (k + 1) rfl q1 (fun b9 o9 cs hcs hR hcell9 => ?_)
        subst hR
        constructor
        · refine ldn (cxg _) (i := 1) rfl hcell8 rfl ?_
          refine ⟨(by repeat first | exact trivial | refine ⟨.inl rfl, ?_⟩ | refine ⟨.inr rfl, ?_⟩), ?_⟩
          refine ldn (cxg _) (i := 1) rfl hcell9 rfl ?_
          refine ⟨(by repeat first | exact trivial | refine ⟨.inl rfl, ?_⟩ | refine ⟨.inr rfl, ?_⟩), ?_⟩
          rw [← hx, ← hy]
          refine oidxN (cxg _) (e := 52) rfl (o := ⟨o.a, o.n, o.c, h2⟩) ho1 (k + 1) rfl q1 fun b7 hb7 => ?_
          refine ostoN (f := fJ) (cxg _) (sz := 3) (fun _ => rfl) (i := 1) rfl hb7 ho1 q1 rfl rfl y rfl rfl rfl fun o2 f1 f2 f3 ho2 => ?_
          refine ⟨(by repeat first | exact trivial | refine ⟨.inl rfl, ?_⟩ | refine ⟨.inr rfl, ?_⟩), ?_⟩
          obtain ⟨oa, on, oc, h3⟩ := o2
          simp only at f1 f2 f3
          subst f1 f2 f3
          refine oidxN (cxg _) (e := 52) rfl (o := ⟨o.a, o.n, o.c, h3⟩) ho2 k (by omega) q0' fun b6 hb6 => ?_
          refine ostoN (f := fJ) (cxg _) (sz := 3) (fun _ => rfl) (i := 1) rfl hb6 ho2 q0' rfl rfl x rfl rfl rfl fun o2 f1 f2 f3 ho3 => ?_
          exact ⟨o2, ⟨⟨f1, f2, f3⟩, ho3⟩, Ent.mk (fun _ _ h => h) rfl rfl⟩
        · refine ldn (cxg _) (i := 1) rfl hcell9 rfl ?_
          refine ⟨(by repeat first | exact trivial | refine ⟨.inl rfl, ?_⟩ | refine ⟨.inr rfl, ?_⟩), ?_⟩
          refine ldn (cxg _) (i := 1) rfl hcell8 rfl ?_
          refine ⟨(by repeat first | exact trivial | refine ⟨.inl rfl, ?_⟩ | refine ⟨.inr rfl, ?_⟩), ?_⟩
          rw [← hx, ← hy]
          refine oidxN (cxg _) (e := 52) rfl (o := ⟨o.a, o.n, o.c, h2⟩) ho1 (k + 1) rfl q1 fun b7 hb7 => ?_
          refine ostoN (f := fJ) (cxg _) (sz := 3) (fun _ => rfl) (i := 1) rfl hb7 ho1 q1 rfl rfl y rfl rfl rfl fun o2 f1 f2 f3 ho2 => ?_
          refine ⟨(by repeat first | exact trivial | refine ⟨.inl rfl, ?_⟩ | refine ⟨.inr rfl, ?_⟩), ?_⟩
          obtain ⟨oa, on, oc, h3⟩ := o2
          simp only at f1 f2 f3
          subst f1 f2 f3
          refine oidxN (cxg _) (e := 52) rfl (o := ⟨o.a, o.n, o.c, h3⟩) ho2 k (by omega) q0' fun b6 hb6 => ?_
          refine ostoN (f := fJ) (cxg _) (sz := 3) (fun _ => rfl) (i := 1) rfl hb6 ho2 q0' rfl rfl x rfl rfl rfl fun o2 f1 f2 f3 ho3 => ?_
          exact ⟨o2, ⟨⟨f1, f2, f3⟩, ho3⟩, Ent.mk (fun _ _ h => h) rfl rfl⟩
      rintro o3 ⟨⟨e1, e2, e3⟩, ho3⟩ _
      dsimp only
      refine nw (by omega) (by omega) ?_
      exact ⟨(k, o3, (M.set (k + 1) y).set k x), ⟨hI2, ⟨e1, e2, e3⟩, ho3⟩, by dsimp only; omega, Ent.mk (fun _ _ h => h) (by rw [show ((k + 1 : Nat) : Int) - 1 = (k : Int) by omega]; rfl) rfl⟩
    · have hM : M = srtK lt L (i + 1) := by
        cases j with
        | zero => exact hI.zero
        | succ k =>
          obtain ⟨q1, q0, -, q3⟩ := hI.get
          rw [dif_pos ⟨by omega, q1⟩] at hc1
          exact q3 hc1
      refine nw (by omega) (by omega) ?_
      exact ⟨(i + 1, ⟨o.a, o.n, o.c, h2⟩), ⟨⟨by dsimp only; omega, .inl (by dsimp only; omega)⟩, ⟨rfl, rfl, rfl⟩, fin hM⟩, by dsimp only; omega, Ent.mk (fun _ _ h => h) rfl rfl⟩
  · have he : srtK lt L i = srtI lt L := srtK_end lt (by omega)
    rw [he] at ho1
    exact ⟨h1, [], ⟨rfl, rfl, ho1⟩, fun w' h => h⟩
set_option maxRecDepth 10000 in
theorem sortStableIIn_spec {o : Dw.Os} {L : List Int} (gf : Nat) (cap : List Value) (cf : Int → Int → Int) (w : World) (hin : o.h.In w) (ho : OwnO fI 3 1 o L) (hl : L.length < 20)
    (hc : ∀ w', ((Hp.whole w).minus o.h).In w' → ∀ x ∈ L, ∀ y ∈ L, CallsE Tryz.prog gf ([] ++ [Value.int .i64 x, Value.int .i64 y] ++ cap).toArray w' (RetV w' (.int .i64 (cf x y)))) :
    CallsE Tryz.prog 112 #[o.v, .int .i64 o.n, .func (.func gf) ⟨[]⟩ ⟨cap⟩] w (RetM w o.h fun v h' cs => v = .tuple #[] ∧ cs = [] ∧ OwnO fI 3 1 ⟨o.a, o.n, o.c, h'⟩ (srtI (fun a b : Int => decide (cf a b < 0)) L)) := by
  have hn := ho.len
  refine enterM (X := cx 63) (cxg _) (args := [o.v, .int .i64 o.n, .func (.func gf) ⟨[]⟩ ⟨cap⟩]) hin [] Tryz.func112 rfl rfl rfl rfl rfl ?_
  refine NeedL.mk Unit (fun _ => [(0, .v o.v), (1, .v (.int .i64 o.n)), (2, .v (.func (.func gf) ⟨[]⟩ ⟨cap⟩)), (6, .v (.int .i64 20)), (7, .v (.int .i64 0)), (8, .v (.int .i64 20))]) (fun _ => [.hp ((Hp.whole w).minus o.h), .hp o.h]) (fun _ => True) (fun _ => 0) () trivial (Ent.mk (fun _ _ h => h) rfl rfl) ?_
  rintro ⟨⟩ _
  refine dfalse (by omega) ?_
  refine callM (i := 1) rfl (fun w' hm => insSortC_spec gf cap cf w' (hm 1 _ rfl) ho (by omega) (fun w2 h2 => hc w2 (h2.le (Hp.le_minus (hm 0 _ rfl).whole (Hp.minus_dj _ _))))) ?_
  rintro _ h2 _ ⟨rfl, rfl, ho2⟩
  refine NeedL.mk Unit (fun _ => [(0, .v o.v), (1, .v (.int .i64 o.n)), (2, .v (.func (.func gf) ⟨[]⟩ ⟨cap⟩)), (6, .v (.int .i64 20))]) (fun _ => [.hp ((Hp.whole w).minus o.h), .hp h2]) (fun _ => True) (fun _ => 0) () trivial (Ent.mk (fun _ _ h => h) rfl rfl) ?_
  rintro ⟨⟩ _
  refine dfalse (by omega) ?_
  exact ⟨h2, [], ⟨rfl, rfl, ho2⟩, fun w' h => h⟩
set_option maxRecDepth 10000 in
theorem sortStableI_spec {o : Dw.Os} {L : List Int} (gf : Nat) (cap : List Value) (cf : Int → Int → Int) (w : World) (hin : o.h.In w) (ho : OwnO fI 3 1 o L) (hl : L.length < 20)
    (hc : ∀ w', ((Hp.whole w).minus o.h).In w' → ∀ x ∈ L, ∀ y ∈ L, CallsE Tryz.prog gf ([] ++ [Value.int .i64 x, Value.int .i64 y] ++ cap).toArray w' (RetV w' (.int .i64 (cf x y)))) :
    CallsE Tryz.prog 74 #[o.v, .func (.func gf) ⟨[]⟩ ⟨cap⟩] w (RetM w o.h fun v h' cs => v = .tuple #[] ∧ cs = [] ∧ OwnO fI 3 1 ⟨o.a, o.n, o.c, h'⟩ (srtI (fun a b : Int => decide (cf a b < 0)) L)) := by
  have hn := ho.len
  refine enterM (X := cx 9) (cxg _) (args := [o.v, .func (.func gf) ⟨[]⟩ ⟨cap⟩]) hin [] Tryz.func74 rfl rfl rfl rfl rfl ?_
  refine callM (i := 1) rfl (fun w' hm => sortStableIIn_spec gf cap cf w' (hm 1 _ rfl) ho hl (fun w2 h2 => hc w2 (h2.le (Hp.le_minus (hm 0 _ rfl).whole (Hp.minus_dj _ _))))) ?_
  rintro _ h2 _ ⟨rfl, rfl, ho2⟩
  exact ⟨h2, [], ⟨rfl, rfl, ho2⟩, fun w' h => h⟩
set_option maxRecDepth 10000 in
theorem sortStableJIn_spec {o : Dw.Os} {L : List Jb} (gf : Nat) (cap : List Value) (cf : Jb → Jb → Int) (w : World) (hin : o.h.In w) (ho : OwnO fJ 52 3 o L) (hl : L.length < 20)
    (hc : ∀ w', ((Hp.whole w).minus o.h).In w' → ∀ x ∈ L, ∀ y ∈ L, CallsE Tryz.prog gf ([] ++ [Value.agg (fJ x).toArray, Value.agg (fJ y).toArray] ++ cap).toArray w' (RetV w' (.int .i64 (cf x y)))) :
    CallsE Tryz.prog 119 #[o.v, .int .i64 o.n, .func (.func gf) ⟨[]⟩ ⟨cap⟩] w (RetM w o.h fun v h' cs => v = .tuple #[] ∧ cs = [] ∧ OwnO fJ 52 3 ⟨o.a, o.n, o.c, h'⟩ (srtI (fun a b : Jb => decide (cf a b < 0)) L)) := by
  have hn := ho.len
  refine enterM (X := cx 63) (cxg _) (args := [o.v, .int .i64 o.n, .func (.func gf) ⟨[]⟩ ⟨cap⟩]) hin [] Tryz.func119 rfl rfl rfl rfl rfl ?_
  refine NeedL.mk Unit (fun _ => [(0, .v o.v), (1, .v (.int .i64 o.n)), (2, .v (.func (.func gf) ⟨[]⟩ ⟨cap⟩)), (6, .v (.int .i64 20)), (7, .v (.int .i64 0)), (8, .v (.int .i64 20))]) (fun _ => [.hp ((Hp.whole w).minus o.h), .hp o.h]) (fun _ => True) (fun _ => 0) () trivial (Ent.mk (fun _ _ h => h) rfl rfl) ?_
  rintro ⟨⟩ _
  refine dfalse (by omega) ?_
  refine callM (i := 1) rfl (fun w' hm => insSortJ_spec gf cap cf w' (hm 1 _ rfl) ho (by omega) (fun w2 h2 => hc w2 (h2.le (Hp.le_minus (hm 0 _ rfl).whole (Hp.minus_dj _ _))))) ?_
  rintro _ h2 _ ⟨rfl, rfl, ho2⟩
  refine NeedL.mk Unit (fun _ => [(0, .v o.v), (1, .v (.int .i64 o.n)), (2, .v (.func (.func gf) ⟨[]⟩ ⟨cap⟩)), (6, .v (.int .i64 20))]) (fun _ => [.hp ((Hp.whole w).minus o.h), .hp h2]) (fun _ => True) (fun _ => 0) () trivial (Ent.mk (fun _ _ h => h) rfl rfl) ?_
  rintro ⟨⟩ _
  refine dfalse (by omega) ?_
  exact ⟨h2, [], ⟨rfl, rfl, ho2⟩, fun w' h => h⟩
set_option maxRecDepth 10000 in
theorem sortStableJ_spec {o : Dw.Os} {L : List Jb} (gf : Nat) (cap : List Value) (cf : Jb → Jb → Int) (w : World) (hin : o.h.In w) (ho : OwnO fJ 52 3 o L) (hl : L.length < 20)
    (hc : ∀ w', ((Hp.whole w).minus o.h).In w' → ∀ x ∈ L, ∀ y ∈ L, CallsE Tryz.prog gf ([] ++ [Value.agg (fJ x).toArray, Value.agg (fJ y).toArray] ++ cap).toArray w' (RetV w' (.int .i64 (cf x y)))) :
    CallsE Tryz.prog 83 #[o.v, .func (.func gf) ⟨[]⟩ ⟨cap⟩] w (RetM w o.h fun v h' cs => v = .tuple #[] ∧ cs = [] ∧ OwnO fJ 52 3 ⟨o.a, o.n, o.c, h'⟩ (srtI (fun a b : Jb => decide (cf a b < 0)) L)) := by
  have hn := ho.len
  refine enterM (X := cx 9) (cxg _) (args := [o.v, .func (.func gf) ⟨[]⟩ ⟨cap⟩]) hin [] Tryz.func83 rfl rfl rfl rfl rfl ?_
  refine callM (i := 1) rfl (fun w' hm => sortStableJIn_spec gf cap cf w' (hm 1 _ rfl) ho hl (fun w2 h2 => hc w2 (h2.le (Hp.le_minus (hm 0 _ rfl).whole (Hp.minus_dj _ _))))) ?_
  rintro _ h2 _ ⟨rfl, rfl, ho2⟩
  exact ⟨h2, [], ⟨rfl, rfl, ho2⟩, fun w' h => h⟩
theorem wrapU' (x : Int) : IntKind.u64.wrap x = x % 18446744073709551616 := by
  show Int.emod x (2 ^ 64) = _
  rfl
theorem nwU {x : Int} {q : Int → Prop} (h1 : 0 ≤ x) (h2 : x < 18446744073709551616) (hq : q x) : NeedW .u64 x q := ⟨x, by rw [wrapU']; omega, hq⟩
theorem nwB {b : UInt8} {q : Int → Prop} (hq : ∀ r : Int, 0 ≤ r → r < 256 → q r) : NeedW .i64 (b.toNat : Int) q := by
  have := UInt8.toNat_lt b
  exact nw (by omega) (by omega) (hq _ (by omega) (by omega))
set_option maxRecDepth 100000 in
theorem len64_spec (x : Nat) (w : World) (hx : x < 256) : CallsE Tryz.prog 143 #[.int .u64 x] w (Ret w fun v cs => (∃ r : Int, v = .int .i64 r) ∧ cs = []) := by
  refine enter (X := cx 25) (cxg _) (args := [.int .u64 x]) [.tmp 2] Tryz.func143 rfl rfl rfl rfl rfl ?_
  refine dfalse (by omega) ?_
  refine dfalse (by omega) ?_
  refine dfalse (by omega) ?_
  refine ⟨(x : Int), by show Int.emod (x : Int) (2 ^ 8) = (x : Int); exact Int.emod_eq_of_lt (by omega) (by omega), ?_⟩
  refine qIdxS (cxg _) rfl rfl x rfl (by show x < 256; exact hx) ?_
  refine nwB fun r h0 h1 => ?_
  refine nw (by omega) (by omega) ?_
  exact ⟨[], ⟨⟨_, rfl⟩, rfl⟩, fun w' h => h⟩
theorem len_spec (x : Nat) (w : World) (hx : x < 256) : CallsE Tryz.prog 111 #[.int .u64 x] w (Ret w fun v cs => (∃ r : Int, v = .int .i64 r) ∧ cs = []) := by
  refine enter (X := cx 8) (cxg _) (args := [.int .u64 x]) [.tmp 2] Tryz.func111 rfl rfl rfl rfl rfl ?_
  refine call (fun w' _ => len64_spec x w' hx) ?_
  rintro _ _ ⟨⟨r, rfl⟩, rfl⟩
  exact ⟨[], ⟨⟨r, rfl⟩, rfl⟩, fun w' h => h⟩
set_option maxRecDepth 10000 in
theorem pdq_spec {o : Dw.Os} {L : List Int} (r : Int) (w : World) (hin : o.h.In w) (ho : OwnO fI 3 1 o L) (hl : L.length ≤ 12) :
    CallsE Tryz.prog 110 #[o.v, .int .i64 0, .int .i64 o.n, .int .i64 r] w (RetM w o.h fun v h' cs => v = .tuple #[] ∧ cs = [] ∧ OwnO fI 3 1 ⟨o.a, o.n, o.c, h'⟩ (srtI (fun a b : Int => decide (a < b)) L)) := by
  have hn := ho.len
  refine enterM (X := cx 134) (cxg _) (args := [o.v, .int .i64 0, .int .i64 o.n, .int .i64 r]) hin [] Tryz.func110 rfl rfl rfl rfl rfl ?_
  refine NeedL.mk Unit (fun _ => [(0, .v o.v), (1, .v (.int .i64 0)), (2, .v (.int .i64 o.n)), (3, .v (.int .i64 r)), (8, .v (.bool true)), (9, .v (.bool true))]) (fun _ => [.hp ((Hp.whole w).minus o.h), .hp o.h]) (fun _ => True) (fun _ => 0) () trivial (Ent.mk (fun _ _ h => h) rfl rfl) ?_
  rintro ⟨⟩ _
  refine nw (by omega) (by omega) ?_
  refine dtrue (by omega) ?_
  refine callM (i := 1) rfl (fun w' hm => insSort_spec w' (hm 1 _ rfl) ho (by omega)) ?_
  rintro _ h2 _ ⟨rfl, rfl, ho2⟩
  exact ⟨h2, [], ⟨rfl, rfl, ho2⟩, fun w' h => h⟩
theorem sort_spec12 {o : Dw.Os} {L : List Int} (w : World) (hin : o.h.In w) (ho : OwnO fI 3 1 o L) (hl : L.length ≤ 12) :
    CallsE Tryz.prog 73 #[o.v] w (RetM w o.h fun v h' cs => v = .tuple #[] ∧ cs = [] ∧ OwnO fI 3 1 ⟨o.a, o.n, o.c, h'⟩ (srtI (fun a b : Int => decide (a < b)) L)) := by
  have hn := ho.len
  refine enterM (X := cx 11) (cxg _) (args := [o.v]) hin [] Tryz.func73 rfl rfl rfl rfl rfl ?_
  refine nwU (by omega) (by omega) ?_
  refine call (fun w' _ => len_spec o.n w' (by omega)) ?_
  rintro _ _ ⟨⟨r, rfl⟩, rfl⟩
  refine callM (i := 1) rfl (fun w' hm => pdq_spec r w' (hm 1 _ rfl) ho hl) ?_
  rintro _ h2 _ ⟨rfl, rfl, ho2⟩
  exact ⟨h2, [], ⟨rfl, rfl, ho2⟩, fun w' h => h⟩
end Go.Proofs.YtnlkffccobdbjaaGreat
namespace Go.Proofs.YtnlkffccobdbjaaGreat
open Go Go.RowKit Go.Dw
theorem eqJob (w : World) (a b c a' b' c' : Int) : (Op.equalIn 10000 52 (.agg #[.int .i64 a, .int .i64 b, .int .i64 c]) (.agg #[.int .i64 a', .int .i64 b', .int .i64 c'])).run Tryz.prog w = .ok (decide ((a, b, c) = (a', b', c'))) w := by
  rw [show (10000 : Nat) = 9998 + 1 + 1 from rfl, run_equalIn_struct w _ _ _ _ (by kernel_rfl) (by kernel_rfl)]
  have e : (Tryz.prog.fieldsOf 52).toList = [⟨"Task", 3, 0, false, "", "", 0⟩, ⟨"Station", 3, 1, false, "", "", 8⟩, ⟨"Start", 3, 2, false, "", "", 16⟩] := by kernel_rfl
  have hi : ∀ x y : Int, (Op.equalIn (9998 + 1) 3 (.int .i64 x) (.int .i64 y)).run Tryz.prog w = .ok (x == y) w := fun x y => run_equalIn_int w 9998 3 .i64 .i64 x y Tryz.underlying3
  rw [e]
  simp only [Op.eqFields, ne_eq, String.reduceEq, not_false_eq_true, if_true, Sem.run_bind, part, Tryz.isAgg3, Result.andThen_ok]
  simp [hi]
  by_cases h1 : a = a' <;> by_cases h2 : b = b' <;> by_cases h3 : c = c' <;> simp [h1, h2, h3]
theorem qJobNe {s : List Ch} {xo yo : Operand} {a b c a' b' c' : Int} {q : TV → Prop} (h : q (.v (.bool (decide ((a, b, c) ≠ (a', b', c')))))) :
    NeedQ Tryz.prog s (do eqGuard .neq 52 xo yo (.agg #[.int .i64 a, .int .i64 b, .int .i64 c]) (.agg #[.int .i64 a', .int .i64 b', .int .i64 c']); binOp .neq 52 (.agg #[.int .i64 a, .int .i64 b, .int .i64 c]) (.agg #[.int .i64 a', .int .i64 b', .int .i64 c'])) q := by
  refine ⟨_, fun w _ => ?_, h⟩
  rw [Sem.run_bind, run_eqGuard_agg w _ _ _ _ _ _ Tryz.eqGuardType52]
  simp only [Result.andThen_ok]
  rw [run_neq_struct, eqJob]
  by_cases h1 : (a, b, c) = (a', b', c') <;> simp [h1]
theorem equalJobs_spec {a a' : Option Addr} {n c n' c' : Nat} {L L' : List Jb} (w : World) (hL : Sl (encF fJ) 3 (Hp.whole w) a n c L) (hL' : Sl (encF fJ) 3 (Hp.whole w) a' n' c' L') (hn : n < 1000000000) :
    CallsE Tryz.prog 27 #[.slice a n c, .slice a' n' c'] w (RetV w (.bool (decide (L = L')))) := by
  have hlen := hL.len
  have hlen' := hL'.len
  refine enter (X := cx 26) (cxg _) (args := [.slice a n c, .slice a' n' c']) [.tmp 4] Tryz.func27 rfl rfl rfl rfl rfl ?_
  refine bsplitd (fun hne => ?_) (fun heq => ?_)
  · refine ⟨[], ⟨?_, rfl⟩, fun w' h => h⟩
    have : L ≠ L' := fun e => hne (by rw [hlen, hlen', e])
    simp [this]
  have hnn : n = n' := by omega
  refine NeedL.mk Nat (fun k => [(0, .v (.slice a n c)), (1, .v (.slice a' n' c')), (12, .v (.int .i64 n)), (13, .v (.int .i64 k))]) (fun _ => [.hp (Hp.whole w)])
    (fun k => k ≤ n ∧ L.take k = L'.take k) (fun k => n - k) 0 ⟨Nat.zero_le _, rfl⟩ (Ent.mk (fun _ _ h => h) rfl rfl) ?_
  rintro k ⟨hk, ho⟩
  refine bsplitd (fun hlt => ?_) (fun hge => ?_)
  · have hlt' : k < L.length := by omega
    have hlt2 : k < L'.length := by omega
    refine NeedD.by_order (cxg _) (.take 0 <| .take 1 <| .take 2 <| .take 3 <| .take 4 <| .take 5 <| .take 6 <| .take 7 <| .take 8 <| .done) (by kernel_rfl) ?_
    refine idx (cxg _) (e := 52) rfl hL k rfl hlt' (fun b o cs hcs hR hcell => ?_)
    subst hR
    refine ldn (cxg _) (i := 0) rfl hcell rfl ?_
    refine idx (cxg _) (e := 52) rfl hL' k rfl hlt2 (fun b o cs hcs hR hcell => ?_)
    subst hR
    refine ldn (cxg _) (i := 0) rfl hcell rfl ?_
    refine qJobNe ?_
    refine bsplitd (fun hb => ?_) (fun hb => ?_)
    · refine ⟨[], ⟨?_, rfl⟩, fun w' h => h⟩
      have : L ≠ L' := fun e => hb (by simp [e])
      simp [this]
    · refine nw (by omega) (by omega) ?_
      exact ⟨k + 1, ⟨by omega, take_eq_step hlt' hlt2 ho (Classical.byContradiction hb)⟩, by omega, Ent.mk (fun _ _ h => h) rfl rfl⟩
  · refine ⟨[], ⟨?_, rfl⟩, fun w' h => h⟩
    simp [take_eq_of (show L.length ≤ k by omega) (show L'.length ≤ k by omega) ho]

theorem equalStrs_spec {a a' : Option Addr} {n c n' c' : Nat} {L L' : List ByteArray} (w : World) (hL : Sl (encF fS) 1 (Hp.whole w) a n c L) (hL' : Sl (encF fS) 1 (Hp.whole w) a' n' c' L') (hn : n < 1000000000) :
    CallsE Tryz.prog 130 #[.slice a n c, .slice a' n' c'] w (RetV w (.bool (decide (L = L')))) := by
  have hlen := hL.len
  have hlen' := hL'.len
  refine enter (X := cx 26) (cxg _) (args := [.slice a n c, .slice a' n' c']) [.tmp 4] Tryz.func130 rfl rfl rfl rfl rfl ?_
  refine bsplitd (fun hne => ?_) (fun heq => ?_)
  · refine ⟨[], ⟨?_, rfl⟩, fun w' h => h⟩
    have : L ≠ L' := fun e => hne (by rw [hlen, hlen', e])
    simp [this]
  have hnn : n = n' := by omega
  refine NeedL.mk Nat (fun k => [(0, .v (.slice a n c)), (1, .v (.slice a' n' c')), (12, .v (.int .i64 n)), (13, .v (.int .i64 k))]) (fun _ => [.hp (Hp.whole w)])
    (fun k => k ≤ n ∧ L.take k = L'.take k) (fun k => n - k) 0 ⟨Nat.zero_le _, rfl⟩ (Ent.mk (fun _ _ h => h) rfl rfl) ?_
  rintro k ⟨hk, ho⟩
  refine bsplitd (fun hlt => ?_) (fun hge => ?_)
  · have hlt' : k < L.length := by omega
    have hlt2 : k < L'.length := by omega
    refine NeedD.by_order (cxg _) (.take 0 <| .take 1 <| .take 2 <| .take 3 <| .take 4 <| .take 5 <| .take 6 <| .take 7 <| .take 8 <| .done) (by kernel_rfl) ?_
    refine idx (cxg _) (e := 9) rfl hL k rfl hlt' (fun b o cs hcs hR hcell => ?_)
    subst hR
    refine ld1 (cxg _) (i := 0) rfl (hcell 0 _ rfl) rfl ?_
    refine idx (cxg _) (e := 9) rfl hL' k rfl hlt2 (fun b o cs hcs hR hcell => ?_)
    subst hR
    refine ld1 (cxg _) (i := 0) rfl (hcell 0 _ rfl) rfl ?_
    refine qNeS ?_
    refine bsplitd (fun hb => ?_) (fun hb => ?_)
    · refine ⟨[], ⟨?_, rfl⟩, fun w' h => h⟩
      have : L ≠ L' := fun e => hb (by simp [e])
      simp [this]
    · refine nw (by omega) (by omega) ?_
      exact ⟨k + 1, ⟨by omega, take_eq_step hlt' hlt2 ho (Classical.byContradiction hb)⟩, by omega, Ent.mk (fun _ _ h => h) rfl rfl⟩
  · refine ⟨[], ⟨?_, rfl⟩, fun w' h => h⟩
    simp [take_eq_of (show L.length ≤ k by omega) (show L'.length ≤ k by omega) ho]

theorem cloneJobs_spec {a : Option Addr} {n c : Nat} {L : List Jb} (w : World) (hL : Sl (encF fJ) 3 (Hp.whole w) a n c L) (hn : n < 1000000000) :
    CallsE Tryz.prog 41 #[.slice a n c] w (Ret w fun v cs => ∃ o, v = o.v ∧ cs = [.hp o.h] ∧ OwnO fJ 52 3 o L) := by
  have hlen := hL.len
  refine enter (X := cx 8) (cxg _) (args := [.slice a n c]) [.tmp 2] Tryz.func41 rfl rfl rfl rfl rfl ?_
  refine qNilEq rfl ?_
  refine bsplit (fun h => ?_) (fun h => ?_)
  · refine ⟨[.hp Hp.emp], ⟨Os.nil, rfl, rfl, ?_⟩, fun w' h => h.emp⟩
    have : L = [] := by
      cases a with
      | none => cases L with
        | nil => rfl
        | cons x r => obtain ⟨b, off, cs, h1, _⟩ := hL.cells 0 (by simp); cases h1
      | some _ => simp at h
    rw [this]; exact OwnO.nil _ _ _
  · intro b
    refine app0 (cxg _) (e := 52) rfl (fun _ => rfl) (fun _ => rfl) (k := 0) rfl hL rfl (by omega) fun o' ho' => ?_
    exact ⟨[.hp o'.h], ⟨o', rfl, rfl, ho'⟩, fun w' h => h.pick [0, 2] rfl rfl⟩
theorem cloneBools_spec {a : Option Addr} {n c : Nat} {L : List Bool} (w : World) (hL : Sl (encF fB) 1 (Hp.whole w) a n c L) (hn : n < 1000000000) :
    CallsE Tryz.prog 131 #[.slice a n c] w (Ret w fun v cs => ∃ o, v = o.v ∧ cs = [.hp o.h] ∧ OwnO fB 4 1 o L) := by
  have hlen := hL.len
  refine enter (X := cx 8) (cxg _) (args := [.slice a n c]) [.tmp 2] Tryz.func131 rfl rfl rfl rfl rfl ?_
  refine qNilEq rfl ?_
  refine bsplit (fun h => ?_) (fun h => ?_)
  · refine ⟨[.hp Hp.emp], ⟨Os.nil, rfl, rfl, ?_⟩, fun w' h => h.emp⟩
    have : L = [] := by
      cases a with
      | none => cases L with
        | nil => rfl
        | cons x r => obtain ⟨b, off, cs, h1, _⟩ := hL.cells 0 (by simp); cases h1
      | some _ => simp at h
    rw [this]; exact OwnO.nil _ _ _
  · intro b
    refine app0 (cxg _) (e := 4) rfl (fun _ => rfl) (fun _ => rfl) (k := 0) rfl hL rfl (by omega) fun o' ho' => ?_
    exact ⟨[.hp o'.h], ⟨o', rfl, rfl, ho'⟩, fun w' h => h.pick [0, 2] rfl rfl⟩

/-- runs of equal elements become one -/
def ddI : List Int → List Int
  | [] => []
  | [x] => [x]
  | x :: y :: r => if x = y then ddI (y :: r) else x :: ddI (y :: r)
theorem ddI_snoc : ∀ (P : List Int) (a b : Int), ddI (P ++ [a, b]) = if b = a then ddI (P ++ [a]) else ddI (P ++ [a]) ++ [b]
  | [], a, b => by
    by_cases h : a = b
    · subst h; simp [ddI]
    · simp [ddI, h, Ne.symm h]
  | [x], a, b => by
    by_cases h1 : x = a <;> by_cases h : a = b
    · subst h h1; simp [ddI]
    · subst h1; simp [ddI, h, Ne.symm h]
    · subst h; simp [ddI, h1]
    · simp [ddI, h1, h, Ne.symm h]
  | x :: y :: P, a, b => by
    have ih := ddI_snoc (y :: P) a b
    simp only [List.cons_append] at ih ⊢
    rw [ddI, ddI, ih]
    by_cases h : x = y <;> by_cases h2 : b = a <;> simp [h, h2]
theorem ddI_step {L : List Int} {k : Nat} (h : k + 1 < L.length) : ddI (L.take (k + 2)) = if L[k + 1] = L[k] then ddI (L.take (k + 1)) else ddI (L.take (k + 1)) ++ [L[k + 1]] := by
  rw [List.take_succ_eq_append_getElem h, List.take_succ_eq_append_getElem (show k < L.length by omega), List.append_assoc]
  exact ddI_snoc _ _ _
theorem ddI_len : ∀ L : List Int, (ddI L).length ≤ L.length
  | [] => Nat.le_refl _
  | [x] => Nat.le_refl _
  | x :: y :: r => by
    have := ddI_len (y :: r)
    rw [ddI]; split <;> simp at * <;> omega
set_option maxRecDepth 10000 in
theorem compactI_spec {o : Dw.Os} {L : List Int} (w : World) (hin : o.h.In w) (ho : OwnO fI 3 1 o L) (hl : L.length < 1000000) :
    CallsE Tryz.prog 97 #[o.v] w (RetM w o.h fun v h' cs => ∃ o', v = o'.v ∧ o'.h = h' ∧ cs = [] ∧ OwnO fI 3 1 o' (ddI L)) := by
  have hn := ho.len
  have hf : ∀ x : Int, (fI x).length = 1 := fun _ => rfl
  have hs := OwnO.sl hf (by decide) ho
  refine enterM (X := cx 61) (cxg _) (args := [o.v]) hin [.tmp 2] Tryz.func97 rfl rfl rfl rfl rfl ?_
  refine bsplitd (fun h2 => ?_) (fun h2 => ?_)
  · refine ⟨o.h, [], ⟨o, rfl, rfl, rfl, ?_⟩, fun w' h => h⟩
    have : ddI L = L := by
      match L, hn with
      | [], _ => rfl
      | [x], _ => rfl
      | x :: y :: r, hn => simp at hn; omega
    rw [this]; exact ho
  refine NeedL.mk Nat (fun k => [(0, .v o.v), (3, .v (.int .i64 k))]) (fun _ => [.hp ((Hp.whole w).minus o.h), .hp o.h])
    (fun k => 1 ≤ k ∧ k ≤ o.n ∧ ddI (L.take k) = L.take k) (fun k => o.n - k) 1 ⟨Nat.le_refl _, by omega, ?_⟩ (Ent.mk (fun _ _ h => h) rfl rfl) ?_
  · match L, hn with
    | [], hn => rfl
    | x :: r, hn => simp [ddI]
  rintro k ⟨hk1, hkn, hdd⟩
  refine bsplitd (fun hlt => ?_) (fun hge => ?_)
  · obtain ⟨j, rfl⟩ : ∃ j, k = j + 1 := ⟨k - 1, by omega⟩
    have hj1 : j + 1 < L.length := by omega
    refine NeedD.by_order (cxg _) (.take 0 <| .take 1 <| .take 2 <| .take 3 <| .take 4 <| .take 5 <| .take 6 <| .take 7 <| .take 8 <| .take 9 <| .done) (by kernel_rfl) ?_
    refine idx (cxg _) (e := 3) rfl hs (j + 1) rfl hj1 (fun b1 o1 cs hcs hR hcell => ?_)
    subst hR
    refine ld1 (cxg _) (i := 1) rfl (hcell 0 _ rfl) rfl ?_
    refine nw (by omega) (by omega) ?_
    refine idx (cxg _) (e := 3) rfl hs j (by omega) (by omega) (fun b1 o1 cs hcs hR hcell => ?_)
    subst hR
    refine ld1 (cxg _) (i := 1) rfl (hcell 0 _ rfl) rfl ?_
    have hst := ddI_step hj1
    refine bsplitd (fun heq => ?_) (fun hne => ?_)
    · have heq : L[j + 1] = L[j] := heq
      rw [if_pos heq] at hst
      obtain ⟨b, hb⟩ : ∃ b, o.a = some ⟨b, 0, none⟩ := by
        rcases ho.2.2 with ⟨h0, _⟩ | ⟨b, _, h1, _⟩
        · omega
        · exact ⟨b, h1⟩
      have hcap : o.n ≤ o.c := hs.cap
      refine slO (cxg _) (e := 3) rfl hb (j + 1) rfl (by omega) hcap ?_
      refine NeedL.mk (Nat × Nat × Dw.Os × List Int) (fun g => [(0, .v o.v), (3, .v (.int .i64 g.1)), (4, .v (.slice (some ⟨b, 0 + (j + 1) * 1, none⟩) (o.n - (j + 1)) (o.c - (j + 1)))), (5, .v (.int .i64 g.2.1))]) (fun g => [.hp ((Hp.whole w).minus o.h), .hp g.2.2.1.h])
        (fun g => g.2.2.1.a = o.a ∧ g.2.2.1.n = o.n ∧ g.2.2.1.c = o.c ∧ OwnO fI 3 1 g.2.2.1 g.2.2.2 ∧ 1 ≤ g.2.1 ∧ g.2.1 ≤ o.n - (j + 1) ∧ g.1 ≤ j + g.2.1 ∧ g.2.2.2.take g.1 = ddI (L.take (j + 1 + g.2.1)) ∧ g.2.2.2.drop (j + g.2.1) = L.drop (j + g.2.1))
        (fun g => o.n - g.2.1) (j + 1, 1, o, L) ⟨rfl, rfl, rfl, ho, Nat.le_refl _, by dsimp only; omega, by dsimp only; omega, by dsimp only; rw [hst, hdd], rfl⟩ (Ent.mk (fun _ _ h => h) rfl rfl) ?_
      clear hst hdd heq
      rintro ⟨k, i, o2, M⟩ ⟨ha2, hn2, hc2, ho2, hi1, hin2, hki, hM1, hM2⟩
      dsimp only at *
      have hML : M.length = L.length := by rw [← ho2.len, hn2, hn]
      have hs2 : Sl (encF fI) 1 o2.h (some ⟨b, 0 + (j + 1) * 1, none⟩) (o.n - (j + 1)) (o.c - (j + 1)) (M.drop (j + 1)) := by
        have := OwnO.sl hf (by decide) ho2
        rw [ha2, hb, hn2, hc2] at this
        exact this.drop (j + 1) (by omega)
      refine bsplitd (fun hlt => ?_) (fun hge => ?_)
      · have hil : j + 1 + i < L.length := by omega
        have hd1 : i < (M.drop (j + 1)).length := by simp; omega
        have hd0 : i - 1 < (M.drop (j + 1)).length := by simp; omega
        have get : ∀ t, j + i ≤ t → (ht : t < L.length) → (ht2 : t < M.length) → M[t] = L[t] := fun t h ht ht2 => by
          have e1 : (M.drop (j + i))[t - (j + i)]? = (L.drop (j + i))[t - (j + i)]? := by rw [hM2]
          rw [List.getElem?_drop, List.getElem?_drop, show j + i + (t - (j + i)) = t by omega, List.getElem?_eq_getElem ht, List.getElem?_eq_getElem ht2] at e1
          exact Option.some.inj e1
        have g1 : (M.drop (j + 1))[i] = L[j + 1 + i] := by rw [List.getElem_drop]; exact get _ (by omega) hil (by omega)
        have g0 : (M.drop (j + 1))[i - 1] = L[j + i] := by
          rw [List.getElem_drop]
          have := get (j + i) (Nat.le_refl _) (by omega) (by omega)
          rw [← this]; congr 1; omega
        have hM3 : M.drop (j + (i + 1)) = L.drop (j + (i + 1)) := by
          have h1 := congrArg (List.drop 1) hM2
          rw [List.drop_drop, List.drop_drop] at h1
          exact h1
        have hst := ddI_step (L := L) (k := j + i) (by omega)
        have hst : ddI (L.take (j + 1 + (i + 1))) = if L[j + 1 + i] = L[j + i] then ddI (L.take (j + 1 + i)) else ddI (L.take (j + 1 + i)) ++ [L[j + 1 + i]] := by
          have e1 : j + 1 + (i + 1) = j + i + 2 := by omega
          have e2 : j + 1 + i = j + i + 1 := by omega
          simp only [e1, e2]; exact hst
        refine NeedD.by_order (cxg _) (.take 0 <| .take 1 <| .take 2 <| .take 3 <| .take 4 <| .take 5 <| .take 6 <| .take 7 <| .take 8 <| .take 9 <| .done) (by kernel_rfl) ?_
        refine idx (cxg _) (e := 3) rfl hs2 i rfl hd1 (fun b1 o1 cs hcs hR hcell => ?_)
        subst hR
        refine ld1 (cxg _) (i := 1) rfl (hcell 0 _ rfl) rfl ?_
        refine nw (by omega) (by omega) ?_
        refine idx (cxg _) (e := 3) rfl hs2 (i - 1) (by omega) hd0 (fun b1 o1 cs hcs hR hcell => ?_)
        subst hR
        refine ld1 (cxg _) (i := 1) rfl (hcell 0 _ rfl) rfl ?_
        refine bsplitd (fun hne => ?_) (fun heq => ?_)
        · have hne : ¬ L[j + 1 + i] = L[j + i] := by rw [← g1, ← g0]; exact hne
          rw [if_neg hne] at hst
          refine idx (cxg _) (e := 3) rfl hs2 i rfl hd1 (fun b1 o1 cs hcs hR hcell => ?_)
          subst hR
          refine ld1 (cxg _) (i := 1) rfl (hcell 0 _ rfl) rfl ?_
          have hov : o.v = o2.v := by simp only [Os.v, ha2, hn2, hc2]
          have hkM : k < M.length := by omega
          rw [hov]
          refine oidx1 (cxg _) (e := 3) rfl rfl ho2 k rfl hkM fun b3 hb3 => ?_
          refine osto (g := fun x : Int => .int .i64 x) (fun _ => rfl) (cxg _) (i := 1) rfl hb3 ho2 hkM rfl rfl ((M.drop (j + 1))[i]) rfl rfl rfl fun o3 e1 e2 e3 ho3 => ?_
          refine nw (by omega) (by omega) ?_
          refine nw (by omega) (by omega) ?_
          refine ⟨(k + 1, i + 1, o3, M.set k ((M.drop (j + 1))[i])), ⟨by dsimp only; rw [e1, ha2], by dsimp only; rw [e2, hn2], by dsimp only; rw [e3, hc2], ho3, by dsimp only; omega, by dsimp only; omega, by dsimp only; omega, ?_, ?_⟩, by dsimp only; omega, Ent.mk (fun _ _ h => h) rfl rfl⟩
          · dsimp only
            rw [hst, ← hM1, List.take_succ_eq_append_getElem (by simpa using hkM), List.take_set_of_le (Nat.le_refl _), List.getElem_set_self, g1]
          · dsimp only
            rw [List.drop_set_of_lt (by omega)]
            exact hM3
        · have heq : L[j + 1 + i] = L[j + i] := by
            rw [← g1, ← g0]
            exact Decidable.not_not.1 heq
          rw [if_pos heq] at hst
          refine nw (by omega) (by omega) ?_
          refine ⟨(k, i + 1, o2, M), ⟨ha2, hn2, hc2, ho2, by dsimp only; omega, by dsimp only; omega, by dsimp only; omega, by dsimp only; rw [hst]; exact hM1, ?_⟩, by dsimp only; omega, Ent.mk (fun _ _ h => h) rfl rfl⟩
          exact hM3
      · rw [show L.take (j + 1 + i) = L from List.take_of_length_le (by omega)] at hM1
        have hkn' : k < M.length := by omega
        refine slO (cxg _) (e := 3) rfl hb k rfl (by omega) hcap ?_
        rw [← hn2]
        refine clrO (cxg _) (e := 3) rfl hf (i := 1) rfl (by rw [ha2]; exact hb) ho2 hkn' rfl fun h' ho' => ?_
        refine slT (cxg _) (e := 3) rfl k rfl (by omega) ?_
        refine ⟨h', [], ⟨⟨o2.a, k, o2.c, h'⟩, by rw [ha2, hc2]; rfl, rfl, rfl, ?_⟩, fun w' h => h⟩
        rw [← hM1]; exact ho'
    · refine nw (by omega) (by omega) ?_
      have hne : ¬ L[j + 1] = L[j] := hne
      rw [if_neg hne, hdd] at hst
      refine ⟨j + 2, ⟨by omega, by omega, ?_⟩, by omega, Ent.mk (fun _ _ h => h) rfl rfl⟩
      rw [hst, ← List.take_succ_eq_append_getElem hj1]
  · rw [List.take_of_length_le (by omega)] at hdd
    exact ⟨o.h, [], ⟨o, rfl, rfl, rfl, by rw [hdd]; exact ho⟩, fun w' h => h⟩
theorem indexFuncJobs_spec {a : Option Addr} {n c : Nat} {L : List Jb} (g : Nat) (cap : List Value) (p : Jb → Bool) (w : World) (hL : Sl (encF fJ) 3 (Hp.whole w) a n c L) (hn : n < 1000000000)
    (hp : ∀ w', (Hp.whole w).In w' → ∀ x ∈ L, CallsE Tryz.prog g ([] ++ [Value.agg (fJ x).toArray] ++ cap).toArray w' (RetV w' (.bool (p x)))) :
    CallsE Tryz.prog 120 #[.slice a n c, .func (.func g) ⟨[]⟩ ⟨cap⟩] w (RetV w (.int .i64 (idxBy p L))) := by
  have hlen := hL.len
  refine enter (X := cx 19) (cxg _) (args := [.slice a n c, .func (.func g) ⟨[]⟩ ⟨cap⟩]) [.tmp 4] Tryz.func120 rfl rfl rfl rfl rfl ?_
  refine NeedL.mk Nat (fun k => [(0, .v (.slice a n c)), (1, .v (.func (.func g) ⟨[]⟩ ⟨cap⟩)), (7, .v (.int .i64 n)), (8, .v (.int .i64 k))]) (fun _ => [.hp (Hp.whole w)])
    (fun k => k ≤ n ∧ ∀ y ∈ L.take k, p y = false) (fun k => n - k) 0 ⟨Nat.zero_le _, by simp⟩ (Ent.mk (fun _ _ h => h) rfl rfl) ?_
  rintro k ⟨hk, ho⟩
  refine bsplitd (fun hlt => ?_) (fun hge => ?_)
  · have hlt' : k < L.length := by omega
    refine idx (cxg _) (e := 52) rfl hL k rfl hlt' (fun b o cs hcs hR hcell => ?_)
    subst hR
    refine ldn (cxg _) (i := 0) rfl hcell rfl ?_
    refine forceL_j ?_
    refine callV (.bool (p L[k])) (fun w' hm => hp w' (hm 0 _ rfl) L[k] (List.getElem_mem hlt')) ?_
    refine bsplit (fun hb => ?_) (fun hb => ?_)
    · exact ⟨[], ⟨by rw [idxBy_hit p L k hlt' ho hb], rfl⟩, fun w' h => h.pick [0] rfl rfl⟩
    · refine nw (by omega) (by omega) ?_
      exact ⟨k + 1, ⟨by omega, take_all_step hlt' ho hb⟩, by omega, Ent.mk (fun _ _ h => h) rfl rfl⟩
  · exact ⟨[], ⟨by rw [idxBy_none p L k (by omega) ho], rfl⟩, fun w' h => h.pick [0] rfl rfl⟩

theorem containsFuncJobs_spec {a : Option Addr} {n c : Nat} {L : List Jb} (g : Nat) (cap : List Value) (p : Jb → Bool) (w : World) (hL : Sl (encF fJ) 3 (Hp.whole w) a n c L) (hn : n < 1000000000)
    (hp : ∀ w', (Hp.whole w).In w' → ∀ x ∈ L, CallsE Tryz.prog g ([] ++ [Value.agg (fJ x).toArray] ++ cap).toArray w' (RetV w' (.bool (p x)))) :
    CallsE Tryz.prog 89 #[.slice a n c, .func (.func g) ⟨[]⟩ ⟨cap⟩] w (RetV w (.bool (L.any p))) := by
  refine enter (X := cx 9) (cxg _) (args := [.slice a n c, .func (.func g) ⟨[]⟩ ⟨cap⟩]) [.tmp 4] Tryz.func89 rfl rfl rfl rfl rfl ?_
  refine call (fun w' hm => indexFuncJobs_spec g cap p w' (hL.mono (encF_mono _) (hm 0 _ rfl)) hn (fun w2 h2 => hp w2 (h2.le (hm 0 _ rfl)))) ?_
  rintro _ _ ⟨rfl, rfl⟩
  exact ⟨[], ⟨by rw [← idxBy_any], rfl⟩, fun w' h => h⟩
theorem indexFuncIntsL_spec {a : Option Addr} {n c : Nat} {L : List Int} (g : Nat) (cap : List Value) (p : Int → Bool) (w : World) (hL : Sl (encF fI) 1 (Hp.whole w) a n c L) (hn : n < 1000000000)
    (hp : ∀ w', (Hp.whole w).In w' → ∀ x ∈ L, CallsE Tryz.prog g ([] ++ [Value.int .i64 x] ++ cap).toArray w' (RetV w' (.bool (p x)))) :
    CallsE Tryz.prog 76 #[.slice a n c, .func (.func g) ⟨[]⟩ ⟨cap⟩] w (RetV w (.int .i64 (idxBy p L))) := by
  have hlen := hL.len
  refine enter (X := cx 19) (cxg _) (args := [.slice a n c, .func (.func g) ⟨[]⟩ ⟨cap⟩]) [.tmp 4] Tryz.func76 rfl rfl rfl rfl rfl ?_
  refine NeedL.mk Nat (fun k => [(0, .v (.slice a n c)), (1, .v (.func (.func g) ⟨[]⟩ ⟨cap⟩)), (7, .v (.int .i64 n)), (8, .v (.int .i64 k))]) (fun _ => [.hp (Hp.whole w)])
    (fun k => k ≤ n ∧ ∀ y ∈ L.take k, p y = false) (fun k => n - k) 0 ⟨Nat.zero_le _, by simp⟩ (Ent.mk (fun _ _ h => h) rfl rfl) ?_
  rintro k ⟨hk, ho⟩
  refine bsplitd (fun hlt => ?_) (fun hge => ?_)
  · have hlt' : k < L.length := by omega
    refine idx (cxg _) (e := 3) rfl hL k rfl hlt' (fun b o cs hcs hR hcell => ?_)
    subst hR
    refine ld1 (cxg _) (i := 0) rfl (hcell 0 _ rfl) rfl ?_
    refine forceL_j ?_
    refine callV (.bool (p L[k])) (fun w' hm => hp w' (hm 0 _ rfl) L[k] (List.getElem_mem hlt')) ?_
    refine bsplit (fun hb => ?_) (fun hb => ?_)
    · exact ⟨[], ⟨by rw [idxBy_hit p L k hlt' ho hb], rfl⟩, fun w' h => h.pick [0] rfl rfl⟩
    · refine nw (by omega) (by omega) ?_
      exact ⟨k + 1, ⟨by omega, take_all_step hlt' ho hb⟩, by omega, Ent.mk (fun _ _ h => h) rfl rfl⟩
  · exact ⟨[], ⟨by rw [idxBy_none p L k (by omega) ho], rfl⟩, fun w' h => h.pick [0] rfl rfl⟩

theorem containsFuncIntsL_spec {a : Option Addr} {n c : Nat} {L : List Int} (g : Nat) (cap : List Value) (p : Int → Bool) (w : World) (hL : Sl (encF fI) 1 (Hp.whole w) a n c L) (hn : n < 1000000000)
    (hp : ∀ w', (Hp.whole w).In w' → ∀ x ∈ L, CallsE Tryz.prog g ([] ++ [Value.int .i64 x] ++ cap).toArray w' (RetV w' (.bool (p x)))) :
    CallsE Tryz.prog 60 #[.slice a n c, .func (.func g) ⟨[]⟩ ⟨cap⟩] w (RetV w (.bool (L.any p))) := by
  refine enter (X := cx 9) (cxg _) (args := [.slice a n c, .func (.func g) ⟨[]⟩ ⟨cap⟩]) [.tmp 4] Tryz.func60 rfl rfl rfl rfl rfl ?_
  refine call (fun w' hm => indexFuncIntsL_spec g cap p w' (hL.mono (encF_mono _) (hm 0 _ rfl)) hn (fun w2 h2 => hp w2 (h2.le (hm 0 _ rfl)))) ?_
  rintro _ _ ⟨rfl, rfl⟩
  exact ⟨[], ⟨by rw [← idxBy_any], rfl⟩, fun w' h => h⟩
end Go.Proofs.YtnlkffccobdbjaaGreat
