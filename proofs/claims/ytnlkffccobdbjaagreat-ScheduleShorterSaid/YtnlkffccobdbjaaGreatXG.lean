/- Parts of one proof, joined: Gn, Go. No condition of its own. -/
import Derived.Test.YtnlkffccobdbjaaGreatXD
import Derived.Test.YtnlkffccobdbjaaGreatXE
namespace Go.Proofs.YtnlkffccobdbjaaGreat
open Go Go.RowKit Go.Dw
def revR (N : Int) (E : List (Int × Int)) : Int × List (Int × Int) × Int := if checkF N E = 0 then (N, revF E, 0) else (0, [], checkF N E)
/-- a condensation that is handed back -/
def conR (N : Int) (E : List (Int × Int)) : Int × List (Int × Int) × List Int := if checkF N E = 0 then ((condR N.toNat E).1, (condR N.toNat E).2.1, ofF N.toNat E) else (0, [], [])
theorem single_two {N : Int} {E : List (Int × Int)} {x y : Int} (h : singleF N E [x, y] = 0) : ∃ M : Nat, N = M ∧ Gr M E ∧ (0 ≤ x ∧ x < M) ∧ (0 ≤ y ∧ y < M) := by
  simp only [singleF] at h
  split at h
  · rename_i h1; exact absurd h h1
  rename_i h1
  split at h
  · rename_i h2; exact absurd h h2
  rename_i h2
  obtain ⟨M, rfl, hG, hx⟩ := ready_one (Decidable.not_not.1 h1)
  obtain ⟨M', e, _, hy⟩ := ready_one (Decidable.not_not.1 h2)
  exact ⟨M, rfl, hG, hx, by omega, by omega⟩
def patR (N : Int) (E : List (Int × Int)) (x y : Int) : List Int := if singleF N E [x, y] = 0 then pathF N.toNat E x y else []
def patC (N : Int) (E : List (Int × Int)) (x y : Int) : Int := if singleF N E [x, y] = 0 then (match dst N.toNat E x y with | none => 10 | some _ => 0) else singleF N E [x, y]
theorem ready_ok {N : Int} {E : List (Int × Int)} {L : List Int} (h : readyF N E L = 0) : ∃ M : Nat, N = M ∧ Gr M E ∧ checkF M E = 0 ∧ (∀ x ∈ L, 0 ≤ x ∧ x < M) ∧ ascF L = true := by
  unfold readyF at h
  split at h
  · rename_i h1; exact absurd h h1
  rename_i h1
  have h0 := Decidable.not_not.1 h1
  obtain ⟨M, rfl, hG, _⟩ := checkF_ok h0
  split at h
  · cases h
  rename_i h2
  split at h
  · rename_i h3
    refine ⟨M, rfl, hG, h0, fun x hx => ?_, h3⟩
    have := List.any_eq_false.1 (Bool.not_eq_true _ ▸ h2) x hx
    simp only [beyondF, Bool.or_eq_true, decide_eq_true_eq, not_or] at this
    omega
  · cases h
def reaR (N : Int) (E : List (Int × Int)) (L : List Int) : List Int := if readyF N E L = 0 then lst (rchL N.toNat E L) else []
def leaves (L : List Int) (e : Int × Int) : Bool := decide (e.1 ∈ L) && !decide (e.2 ∈ L)
def cloR (N : Int) (E : List (Int × Int)) (L : List Int) : Bool := if readyF N E L = 0 then !E.any (leaves L) else false
def closR (N : Int) (E : List (Int × Int)) : List (List Int) := if checkF N E = 0 then (cloF N.toNat E).map lst else []
theorem lst_len (S : List Bool) : (lst S).length ≤ S.length := by
  unfold lst; rw [List.length_map]; exact Nat.le_trans (List.length_filter_le _ _) (by simp)
end Go.Proofs.YtnlkffccobdbjaaGreat
namespace Go.Proofs.YtnlkffccobdbjaaGreat
open Go Go.RowKit Go.Dw
/-- a node whose turn it is -/
def rdy (E : List (Int × Int)) (D : List Int) (v : Nat) : Bool := !decide ((v : Int) ∈ D) && E.all fun e => !decide (e.2 = (v : Int)) || decide (e.1 ∈ D)
/-- the order, after i rounds -/
def ordK (N : Nat) (E : List (Int × Int)) : Nat → Option (List Int)
  | 0 => some []
  | i + 1 => match ordK N E i with
    | none => none
    | some D => match (List.range N).find? (rdy E D) with
      | none => none
      | some k => some (D ++ [(k : Int)])
def ordR (N : Int) (E : List (Int × Int)) : List Int := if checkF N E = 0 then (ordK N.toNat E N.toNat).getD [] else []
def ordC (N : Int) (E : List (Int × Int)) : Int := if checkF N E = 0 then (match ordK N.toNat E N.toNat with | none => 30 | some _ => 0) else checkF N E
/-- edges into a node whose begins are not done -/
def cntI (E : List (Int × Int)) (D : List Int) (v : Nat) : Int := ((E.filter fun e => decide (e.2 = (v : Int)) && !decide (e.1 ∈ D)).length : Int)
def cntL (N : Nat) (E : List (Int × Int)) (D : List Int) : List Int := (List.range N).map fun v => cntI E D v
def decL (N : Nat) (E : List (Int × Int)) (D S : List Int) : List Int := (List.range N).map fun v => cntI E D v - ((S.filter fun t => decide (t = (v : Int))).length : Int)
def doneL (N : Nat) (D : List Int) : List Bool := (List.range N).map fun v : Nat => decide ((v : Int) ∈ D)
theorem range_set {α : Type} (N i : Nat) (f : Nat → α) (x : α) : ((List.range N).map f).set i x = (List.range N).map fun v => if v = i then x else f v := by
  apply List.ext_getElem
  · simp
  · intro j h1 h2
    rw [List.getElem_set]
    simp only [List.getElem_map, List.getElem_range]
    by_cases h : i = j
    · subst h; simp
    · rw [if_neg h, if_neg (by omega)]
theorem cntI_step {E : List (Int × Int)} {k : Nat} (hk : k < E.length) (v : Nat) : cntI (E.take (k + 1)) [] v = cntI (E.take k) [] v + (if E[k].2 = (v : Int) then 1 else 0) := by
  unfold cntI
  rw [List.take_succ_eq_append_getElem hk, List.filter_append, List.length_append]
  by_cases h : E[k].2 = (v : Int) <;> simp [h]
theorem cntI_le (E : List (Int × Int)) (D : List Int) (v : Nat) : 0 ≤ cntI E D v ∧ cntI E D v ≤ E.length := by
  unfold cntI
  have := List.length_filter_le (fun e : Int × Int => decide (e.2 = (v : Int)) && !decide (e.1 ∈ D)) E
  omega
theorem rdy_iff {E : List (Int × Int)} {D : List Int} {v : Nat} : rdy E D v = true ↔ (v : Int) ∉ D ∧ cntI E D v = 0 := by
  unfold rdy cntI
  simp only [Bool.and_eq_true, Bool.not_eq_true', decide_eq_false_iff_not, List.all_eq_true, Bool.or_eq_true, decide_eq_true_eq]
  constructor
  · rintro ⟨h1, h2⟩
    refine ⟨h1, ?_⟩
    have : (E.filter fun e => decide (e.2 = (v : Int)) && !decide (e.1 ∈ D)) = [] := by
      rw [List.filter_eq_nil_iff]
      intro e he
      simp only [Bool.and_eq_true, decide_eq_true_eq, Bool.not_eq_true', decide_eq_false_iff_not]
      rintro ⟨h3, h4⟩
      rcases h2 e he with h | h
      · exact h h3
      · exact h4 h
    rw [this]; rfl
  · rintro ⟨h1, h2⟩
    refine ⟨h1, fun e he => ?_⟩
    have h3 : (E.filter fun e => decide (e.2 = (v : Int)) && !decide (e.1 ∈ D)) = [] := List.eq_nil_of_length_eq_zero (by omega)
    rw [List.filter_eq_nil_iff] at h3
    have := h3 e he
    simp only [Bool.and_eq_true, decide_eq_true_eq, Bool.not_eq_true', decide_eq_false_iff_not] at this
    by_cases h : e.2 = (v : Int)
    · right; exact Decidable.not_not.1 fun h4 => this ⟨h, h4⟩
    · left; exact h
theorem cntI_snoc (D : List Int) (k v : Nat) (hk : (k : Int) ∉ D) : ∀ E : List (Int × Int), cntI E (D ++ [(k : Int)]) v = cntI E D v - (((succs E k).filter fun t => decide (t = (v : Int))).length : Int)
  | [] => by simp [cntI, succs]
  | e :: E => by
    have ih := cntI_snoc D k v hk E
    unfold cntI succs at *
    simp only [List.filter_cons]
    by_cases h1 : e.2 = (v : Int)
    · by_cases h2 : e.1 ∈ D
      · have h3 : ¬ e.1 = (k : Int) := fun h => hk (h ▸ h2)
        simp [h1, h2, h3] at ih ⊢
        exact ih
      · by_cases h3 : e.1 = (k : Int)
        · simp [h1, h3, hk] at ih ⊢
          omega
        · simp [h1, h2, h3] at ih ⊢
          omega
    · by_cases h3 : e.1 = (k : Int)
      · simp [h1, h3] at ih ⊢
        exact ih
      · simp [h1, h3] at ih ⊢
        exact ih
theorem decL_end {N : Nat} {E : List (Int × Int)} {D : List Int} {k : Nat} (hk : (k : Int) ∉ D) : decL N E D (succs E k) = cntL N E (D ++ [(k : Int)]) := by
  unfold decL cntL
  refine List.map_congr_left fun v _ => ?_
  rw [cntI_snoc D k v hk]
theorem doneL_snoc {N : Nat} {D : List Int} {k : Nat} : doneL N (D ++ [(k : Int)]) = (doneL N D).set k true := by
  unfold doneL
  rw [range_set]
  refine List.map_congr_left fun v _ => ?_
  by_cases h : v = k
  · subst h; simp
  · have : ¬ ((v : Int) = k) := by omega
    simp [h, this]
theorem ordK_len {N : Nat} {E : List (Int × Int)} : ∀ (i : Nat) (D : List Int), ordK N E i = some D → D.length = i
  | 0, D, h => by cases h; rfl
  | i + 1, D, h => by
    unfold ordK at h
    split at h
    · cases h
    · rename_i D' hD
      split at h
      · cases h
      · cases h
        rw [List.length_append, ordK_len i D' hD]; rfl
theorem cntL_step {N : Nat} {E : List (Int × Int)} {k v : Nat} (hk : k < E.length) (hv : E[k].2 = v) : (cntL N (E.take k) []).set v (cntI (E.take k) [] v + 1) = cntL N (E.take (k + 1)) [] := by
  unfold cntL
  rw [range_set]
  refine List.map_congr_left fun u _ => ?_
  rw [cntI_step hk]
  by_cases h : u = v
  · subst h; simp [hv]
  · have : ¬ (E[k].2 = (u : Int)) := by omega
    simp [h, this]
theorem decL_step {N : Nat} {E : List (Int × Int)} {D S : List Int} {m v : Nat} (hm : m < S.length) (hv : S[m] = v) : (decL N E D (S.take m)).set v (cntI E D v - (((S.take m).filter fun t => decide (t = (v : Int))).length : Int) - 1) = decL N E D (S.take (m + 1)) := by
  unfold decL
  rw [range_set]
  refine List.map_congr_left fun u _ => ?_
  rw [List.take_succ_eq_append_getElem hm, List.filter_append, List.length_append]
  by_cases h : u = v
  · subst h; simp [hv]; omega
  · have : ¬ (S[m] = (u : Int)) := by omega
    simp [h, this]
set_option maxRecDepth 10000 in
theorem Order_spec {a : Option Addr} {n c : Nat} {E : List (Int × Int)} (N : Int) (w : World) (hL : Sl (encF fE) 2 (Hp.whole w) a n c E) :
    CallsE Tryz.prog 114 #[gv N a n c] w (RetI w (ordR N E) (ordC N E)) := by
  have hlen := hL.len
  refine enter (X := cx 94) (cxg _) (args := [.agg #[.int .i64 N, .slice a n c]]) [.tmp 2, .tmp 3] Tryz.func114 rfl rfl rfl rfl rfl ?_
  intro b1
  refine callV _ (fun w' hm => check_spec N w' (hL.mono (encF_mono _) (hm 0 _ rfl))) ?_
  refine bsplitd (fun h => ?_) (fun h => ?_)
  · refine ⟨[.hp Hp.emp], ⟨Os.nil, ?_, rfl, ?_⟩, fun w' h => (h.pick [0] rfl rfl).emp⟩
    · unfold ordC; rw [if_neg h]; rfl
    · unfold ordR; rw [if_neg h]; exact OwnO.nil _ _ _
  have h0 : checkF N E = 0 := Decidable.not_not.1 h
  obtain ⟨M, rfl, hG, _⟩ := checkF_ok h0
  have hN := hG.hN
  have hEl := hG.len
  have hcr : ordR M E = (ordK M E M).getD [] := by unfold ordR; rw [if_pos h0]; rfl
  have hcc : ordC M E = (match ordK M E M with | none => 30 | some _ => 0) := by unfold ordC; rw [if_pos h0]; rfl
  refine NeedD.cut (Dw.Os × Dw.Os) (fun g => [(1, .bx 1 0), (5, .v g.1.v), (6, .v g.2.v)]) (fun g => [.hp (Hp.whole w), .box b1 [.int .i64 M, .slice a n c] 134, .hp g.1.h, .hp g.2.h])
    (fun g => g.1.n = M ∧ g.2.n = M ∧ OwnO fI 3 1 g.1 (List.replicate M 0) ∧ OwnO fB 4 1 g.2 (List.replicate M false)) (NeedD.by_order (cxg _) (.take 0 <| .take 1 <| .take 3 <| .take 4 <| .two 2 (.take 6 <| .run 5 <| .take 7 <| .done) 5 (.run 2 <| .take 6 <| .take 7 <| .done)) (by kernel_rfl) ?_) ?_
  · constructor
    · refine mkO (f := fI) (cxg _) (e := 3) rfl M 0 rfl rfl rfl rfl (by omega) fun o ho' ho => ?_
      refine ⟨(by repeat first | exact trivial | refine ⟨.inl rfl, ?_⟩ | refine ⟨.inr rfl, ?_⟩), ?_⟩
      refine mkO (f := fB) (cxg _) (e := 4) rfl M false rfl rfl rfl rfl (by omega) fun o2 ho2' ho2 => ?_
      refine ⟨(by repeat first | exact trivial | refine ⟨.inl rfl, ?_⟩ | refine ⟨.inr rfl, ?_⟩), ?_⟩
      exact ⟨(o, o2), ⟨ho', ho2', ho, ho2⟩, Ent.mk (fun _ _ h => h.pick [0, 1, 2, 3] rfl rfl) rfl rfl⟩
    · refine mkO (f := fB) (cxg _) (e := 4) rfl M false rfl rfl rfl rfl (by omega) fun o2 ho2' ho2 => ?_
      refine ⟨(by repeat first | exact trivial | refine ⟨.inl rfl, ?_⟩ | refine ⟨.inr rfl, ?_⟩), ?_⟩
      refine mkO (f := fI) (cxg _) (e := 3) rfl M 0 rfl rfl rfl rfl (by omega) fun o ho' ho => ?_
      refine ⟨(by repeat first | exact trivial | refine ⟨.inl rfl, ?_⟩ | refine ⟨.inr rfl, ?_⟩), ?_⟩
      exact ⟨(o, o2), ⟨ho', ho2', ho, ho2⟩, Ent.mk (fun _ _ h => h.pick [0, 1, 3, 2] rfl rfl) rfl rfl⟩
  rintro ⟨oL0, oD0⟩ ⟨hLn0, hDn0, hoL0, hoD0⟩ -
  dsimp only at *
  have z1 : cntL M (E.take 0) [] = List.replicate M 0 := by
    apply List.ext_getElem
    · simp [cntL]
    · intro i h1 h2; simp [cntL, cntI]
  have z2 : doneL M [] = List.replicate M false := by
    apply List.ext_getElem
    · simp [doneL]
    · intro i h1 h2; simp [doneL]
  refine NeedL.mk (Nat × Dw.Os) (fun g => [(1, .bx 1 0), (5, .v g.2.v), (6, .v oD0.v), (26, .v (.slice a n c)), (27, .v (.int .i64 n)), (28, .v (.int .i64 g.1))]) (fun g => [.hp (Hp.whole w), .box b1 [.int .i64 M, .slice a n c] 134, .hp g.2.h, .hp oD0.h])
    (fun g => g.1 ≤ n ∧ g.2.n = M ∧ OwnO fI 3 1 g.2 (cntL M (E.take g.1) [])) (fun g => n - g.1) (0, oL0) ⟨Nat.zero_le _, hLn0, by dsimp only; rw [z1]; exact hoL0⟩ (Ent.mk (fun _ _ h => h) rfl rfl) ?_
  clear hoL0 hLn0 oL0
  rintro ⟨k, oL⟩ ⟨hk, hLn, hoL⟩
  dsimp only at *
  refine bsplitd (fun hlt => ?_) (fun hge => ?_)
  · have hlt' : k < E.length := by omega
    obtain ⟨_, _, r3, r4⟩ := hG.rng _ (List.getElem_mem hlt')
    obtain ⟨v, hv⟩ : ∃ v : Nat, E[k].2 = v := ⟨_, (Int.toNat_of_nonneg r3).symm⟩
    have hvl : v < (cntL M (E.take k) []).length := by simp [cntL]; omega
    have hval : (cntL M (E.take k) [])[v] = cntI (E.take k) [] v := by simp [cntL]
    have hle := cntI_le (E.take k) [] v
    have htl : (E.take k).length ≤ E.length := by rw [List.length_take]; omega
    refine idx (cxg _) (e := 164) rfl hL k rfl hlt' (fun b o cs hcs hR hcell => ?_)
    subst hR
    refine ldn (cxg _) (i := 0) rfl hcell rfl ?_
    intro b8
    refine hideQ (fun _ h => h _ _ ?_)
    refine hideQ (fun q' hq' => ?_)
    refine oidx1 (cxg _) (e := 3) rfl rfl hoL v hv hvl fun b3 hb3 => ?_
    refine old (g := fun x : Int => .int .i64 x) (fun _ => rfl) (cxg _) (i := 2) rfl hb3 hoL hvl rfl ?_
    refine nw (by rw [hval]; omega) (by rw [hval]; omega) ?_
    refine oidx1 (cxg _) (e := 3) rfl rfl hoL v hv hvl fun b3 hb3 => ?_
    refine osto (g := fun x : Int => .int .i64 x) (fun _ => rfl) (cxg _) (i := 2) rfl hb3 hoL hvl rfl rfl ((cntL M (E.take k) [])[v] + 1) rfl rfl rfl fun o3 e1 e2 e3 ho3 => ?_
    refine hq' _ _ ?_
    refine nw (by omega) (by omega) ?_
    exact ⟨(k + 1, o3), ⟨by dsimp only; omega, by dsimp only; omega, by dsimp only; rw [hval, cntL_step hlt' hv] at ho3; exact ho3⟩, by dsimp only; omega, Ent.mk (fun _ _ h => h.pick [0, 1, 2, 3] rfl rfl) (by dsimp only [Os.v]; rw [e1, e2, e3]; rfl) rfl⟩
  rw [List.take_of_length_le (by omega)] at hoL
  refine call (fun w' hm => next_spec M w' (hL.mono (encF_mono _) (hm 0 _ rfl)) hG) ?_
  rintro _ _ ⟨a2, c2, hx, rfl, rfl, hX⟩
  refine NeedL.mk (Nat × Dw.Os × Dw.Os × Dw.Os × List Int) (fun g => [(1, .bx 1 0), (5, .v g.2.1.v), (6, .v g.2.2.1.v), (9, .v (.slice a2 M c2)), (10, .v g.2.2.2.1.v), (43, .v (.int .i64 M)), (44, .v (.int .i64 g.1))])
    (fun g => [.hp (Hp.whole w), .box b1 [.int .i64 M, .slice a n c] 134, .hp g.2.1.h, .hp g.2.2.1.h, .hp hx, .hp g.2.2.2.1.h])
    (fun g => g.1 ≤ M ∧ g.2.1.n = M ∧ g.2.2.1.n = M ∧ ordK M E g.1 = some g.2.2.2.2 ∧ OwnO fI 3 1 g.2.1 (cntL M E g.2.2.2.2) ∧ OwnO fB 4 1 g.2.2.1 (doneL M g.2.2.2.2) ∧ OwnO fI 3 1 g.2.2.2.1 g.2.2.2.2) (fun g => M - g.1) (0, oL, oD0, Os.nil, [])
    ⟨Nat.zero_le _, hLn, hDn0, rfl, hoL, by dsimp only; rw [z2]; exact hoD0, OwnO.nil _ _ _⟩ (Ent.mk (fun _ _ h => (h.pick [0, 1, 2, 3, 4] rfl rfl).emp) rfl rfl) ?_
  clear hLn hDn0 hoL hoD0 oL oD0
  rintro ⟨i, oL, oD, oO, D⟩ ⟨hi, hLn, hDn, hD, hoL, hoD, hoO⟩
  dsimp only at *
  have hDl := ordK_len i D hD
  have bad : (∀ t ∈ List.range M, rdy E D t = false) → i < M → ordK M E M = none := fun hno hiM => by
    have h1 : ordK M E (i + 1) = none := by
      rw [ordK, hD]
      have : (List.range M).find? (rdy E D) = none := by rw [List.find?_eq_none]; intro t ht; rw [hno t ht]; exact Bool.false_ne_true
      dsimp only; rw [this]
    have : ∀ d, ordK M E (i + 1 + d) = none := fun d => by
      induction d with
      | zero => exact h1
      | succ d ih => rw [← Nat.add_assoc, ordK, ih]
    have := this (M - (i + 1))
    rwa [show i + 1 + (M - (i + 1)) = M by omega] at this
  refine bsplitd (fun hlt => ?_) (fun hge => ?_)
  · refine NeedL.mk Nat (fun j => [(1, .bx 1 0), (5, .v oL.v), (6, .v oD.v), (9, .v (.slice a2 M c2)), (10, .v oO.v), (11, .v (.int .i64 j)), (43, .v (.int .i64 M)), (44, .v (.int .i64 i))])
      (fun _ => [.hp (Hp.whole w), .box b1 [.int .i64 M, .slice a n c] 134, .hp oL.h, .hp oD.h, .hp hx, .hp oO.h]) (fun j => j ≤ M ∧ ∀ t ∈ (List.range M).take j, rdy E D t = false) (fun j => M - j) 0 ⟨Nat.zero_le _, by simp⟩ (Ent.mk (fun _ _ h => h) rfl rfl) ?_
    rintro j ⟨hj, hno⟩
    have hcl : (cntL M E D).length = M := by simp [cntL]
    have hdl : (doneL M D).length = M := by simp [doneL]
    have hrl : (List.range M).length = M := List.length_range
    refine hideQ (fun q' hq' => ?_)
    refine hideK 5 (fun q1 k1 => ?_)
    refine k1 _ _ ?_
    refine hideK 5 (fun q1 k1 => ?_)
    refine bsplitd (fun hjl => ?_) (fun hjg => ?_)
    · have hjM : j < M := by omega
      have hjr : (List.range M)[j]'(by omega) = j := List.getElem_range _
      have hle := cntI_le E D j
      have hdv : (doneL M D)[j]'(by omega) = decide ((j : Int) ∈ D) := by simp [doneL]
      have hcv : (cntL M E D)[j]'(by omega) = cntI E D j := by simp [cntL]
      refine oidx1 (cxg _) (e := 4) rfl rfl hoD j rfl (by omega) fun b3 hb3 => ?_
      refine old (g := fun x : Bool => .bool x) (fun _ => rfl) (cxg _) (i := 3) rfl hb3 hoD (by omega) rfl ?_
      refine k1 _ _ ?_
      refine bsplit (fun hd => ?_) (fun hd => ?_)
      · refine hq' _ _ ?_
        refine nw (by omega) (by omega) ?_
        refine ⟨j + 1, ⟨by omega, take_all_step (by omega) hno ?_⟩, by omega, Ent.mk (fun _ _ h => h) rfl rfl⟩
        rw [hjr]
        cases hr : rdy E D j with
        | false => rfl
        | true => rw [hdv] at hd; exact absurd (of_decide_eq_true hd) (rdy_iff.1 hr).1
      rw [hdv] at hd
      have hjD := of_decide_eq_false hd
      refine oidx1 (cxg _) (e := 3) rfl rfl hoL j rfl (by omega) fun b3 hb3 => ?_
      refine old (g := fun x : Int => .int .i64 x) (fun _ => rfl) (cxg _) (i := 2) rfl hb3 hoL (by omega) rfl ?_
      refine hq' _ _ ?_
      refine bsplitd (fun hc => ?_) (fun hc => ?_)
      · refine nw (by omega) (by omega) ?_
        refine ⟨j + 1, ⟨by omega, take_all_step (by omega) hno ?_⟩, by omega, Ent.mk (fun _ _ h => h) rfl rfl⟩
        rw [hjr]
        cases hr : rdy E D j with
        | false => rfl
        | true => rw [hcv] at hc; have := (rdy_iff.1 hr).2; omega
      rw [hcv] at hc
      have hrj : rdy E D j = true := rdy_iff.2 ⟨hjD, by omega⟩
      have hnext : ordK M E (i + 1) = some (D ++ [(j : Int)]) := by
        have hf := find_hit (p := rdy E D) (L := List.range M) (j := j) (by omega) hno (by rw [hjr]; exact hrj)
        rw [hjr] at hf
        rw [ordK, hD]; dsimp only; rw [hf]
      refine bsplitd (fun heq => by omega) (fun hne => ?_)
      refine hideQ (fun q' hq' => ?_)
      refine oidx1 (cxg _) (e := 4) rfl rfl hoD j rfl (by omega) fun b3 hb3 => ?_
      refine osto (g := fun x : Bool => .bool x) (fun _ => rfl) (cxg _) (i := 3) rfl hb3 hoD (by omega) rfl rfl true rfl rfl rfl fun oD' d1 d2 d3 hoD' => ?_
      refine hq' _ _ ?_
      intro b4
      refine appO (cxg _) (e := 3) rfl (i := 5) rfl hoO (j := 6) (j : Int) rfl rfl rfl rfl (by omega) (fun oO' hoO' => ?_)
      have hjn : j < (nextF M E).length := by simp [nextF]; omega
      refine hideQ (fun _ h => h _ _ ?_)
      refine hideQ (fun q' hq' => ?_)
      refine idx (cxg _) (e := 28) rfl hX j rfl hjn (fun b o cs hcs hR hcell => ?_)
      obtain ⟨a3, n3, c3, rfl, hs3⟩ := hR
      refine ld1 (cxg _) (i := 4) rfl (hcell 0 _ rfl) rfl ?_
      refine hq' _ _ ?_
      have hrow : (nextF M E)[j] = succs E j := by simp [nextF]
      rw [hrow] at hs3
      have hn3 := hs3.len
      have hsl : (succs E j).length ≤ E.length := by
        simp only [succs, List.length_map]; exact List.length_filter_le _ _
      refine NeedL.mk (Nat × Dw.Os) (fun g => [(1, .bx 1 0), (5, .v g.2.v), (6, .v oD.v), (9, .v (.slice a2 M c2)), (10, .v oO'.v), (43, .v (.int .i64 M)), (44, .v (.int .i64 i)), (79, .v (.slice a3 n3 c3)), (80, .v (.int .i64 n3)), (81, .v (.int .i64 g.1))])
        (fun g => [.hp (Hp.whole w), .box b1 [.int .i64 M, .slice a n c] 134, .hp g.2.h, .hp oD'.h, .hp hx, .hp oO'.h]) (fun g => g.1 ≤ n3 ∧ g.2.n = M ∧ OwnO fI 3 1 g.2 (decL M E D ((succs E j).take g.1))) (fun g => n3 - g.1) (0, oL)
        ⟨Nat.zero_le _, hLn, by dsimp only; have : decL M E D ((succs E j).take 0) = cntL M E D := by { unfold decL cntL; simp }; rw [this]; exact hoL⟩ (Ent.mk (fun _ _ h => h.pick [0, 1, 2, 3, 4, 5] rfl rfl) rfl rfl) ?_
      rintro ⟨m, oL'⟩ ⟨hm, hLn', hoL'⟩
      dsimp only at *
      refine bsplitd (fun hml => ?_) (fun hmg => ?_)
      · have hml' : m < (succs E j).length := by omega
        obtain ⟨_, _, q3, q4⟩ := hG.rng _ (mem_succs.1 (List.getElem_mem hml'))
        dsimp only at q3 q4
        obtain ⟨v, hv⟩ : ∃ v : Nat, (succs E j)[m] = v := ⟨_, (Int.toNat_of_nonneg q3).symm⟩
        have hvl : v < (decL M E D ((succs E j).take m)).length := by simp [decL]; omega
        have hval : (decL M E D ((succs E j).take m))[v] = cntI E D v - ((((succs E j).take m).filter fun t => decide (t = (v : Int))).length : Int) := by simp [decL]
        have hl1 := cntI_le E D v
        have hl2 := List.length_filter_le (fun t => decide (t = (v : Int))) ((succs E j).take m)
        have hl3 : ((succs E j).take m).length ≤ m := by rw [List.length_take]; omega
        refine idx (cxg _) (e := 3) rfl hs3 m rfl hml' (fun b o cs hcs hR hcell => ?_)
        subst hR
        refine ld1 (cxg _) (i := 4) rfl (hcell 0 _ rfl) rfl ?_
        refine hideQ (fun _ h => h _ _ ?_)
        refine hideQ (fun q' hq' => ?_)
        refine oidx1 (cxg _) (e := 3) rfl rfl hoL' v hv hvl fun b3 hb3 => ?_
        refine old (g := fun x : Int => .int .i64 x) (fun _ => rfl) (cxg _) (i := 2) rfl hb3 hoL' hvl rfl ?_
        refine nw (by rw [hval]; omega) (by rw [hval]; omega) ?_
        refine oidx1 (cxg _) (e := 3) rfl rfl hoL' v hv hvl fun b3 hb3 => ?_
        refine osto (g := fun x : Int => .int .i64 x) (fun _ => rfl) (cxg _) (i := 2) rfl hb3 hoL' hvl rfl rfl ((decL M E D ((succs E j).take m))[v] - 1) rfl rfl rfl fun o3 e1 e2 e3 ho3 => ?_
        refine hq' _ _ ?_
        refine nw (by omega) (by omega) ?_
        exact ⟨(m + 1, o3), ⟨by dsimp only; omega, by dsimp only; omega, by dsimp only; rw [hval, decL_step hml' hv] at ho3; exact ho3⟩, by dsimp only; omega, Ent.mk (fun _ _ h => h) (by dsimp only [Os.v]; rw [e1, e2, e3]; rfl) rfl⟩
      · rw [List.take_of_length_le (by omega), decL_end hjD] at hoL'
        refine nw (by omega) (by omega) ?_
        exact ⟨(i + 1, oL', oD', oO', D ++ [(j : Int)]), ⟨by dsimp only; omega, hLn', by dsimp only; omega, hnext, hoL', by dsimp only; rw [doneL_snoc]; exact hoD', hoO'⟩, by dsimp only; omega, Ent.mk (fun _ _ h => h) (by dsimp only [Os.v]; rw [d1, d2, d3]; rfl) rfl⟩
    · refine k1 _ _ ?_
      refine hq' _ _ ?_
      refine bsplitd (fun heq => ?_) (fun hne => by omega)
      have hnone := bad (by rw [List.take_of_length_le (by omega)] at hno; exact hno) (by omega)
      refine ⟨[.hp Hp.emp], ⟨Os.nil, ?_, rfl, ?_⟩, fun w' h => (h.pick [0] rfl rfl).emp⟩
      · rw [hcc, hnone]; rfl
      · rw [hcr, hnone]; exact OwnO.nil _ _ _
  · rw [show i = M by omega] at hD
    exact ⟨[.hp oO.h], ⟨oO, by rw [hcc, hD], rfl, by rw [hcr, hD]; exact hoO⟩, fun w' h => h.pick [0, 5] rfl rfl⟩
end Go.Proofs.YtnlkffccobdbjaaGreat
