/- Parts of one proof, joined: Gn, Go, L5, L6, Gm, L7, P2, La, P4, P5. No condition of its own. -/
import Derived.Test.YtbcjdjlihhlkaaaDoorXD
import Derived.Test.YtbcjdjlihhlkaaaDoorXE
namespace Go.Proofs.YtbcjdjlihhlkaaaDoor
open Go Go.RowKit Go.Dw
def revR (N : Int) (E : List (Int × Int)) : Int × List (Int × Int) × Int := if checkF N E = 0 then (N, revF E, 0) else (0, [], checkF N E)
/-- a condensation that is handed back -/
def conR (N : Int) (E : List (Int × Int)) : Int × List (Int × Int) × List Int := if checkF N E = 0 then ((condR N.toNat E).1, (condR N.toNat E).2.1, ofF N.toNat E) else (0, [], [])
theorem single_two {N : Int} {E : List (Int × Int)} {x y : Int} (h : singleF N E [x, y] = 0) : ∃ M : Nat, N = M ∧ Gr M E ∧ (0 ≤ x ∧ x < M) ∧ (0 ≤ y ∧ y < M) := by
  simp only [singleF] at h
  split at h
  · rename_i h1; exact absurd h h1
  rename_i h1
  split at h
  · rename_i h2; exact absurd h h2
  rename_i h2
  obtain ⟨M, rfl, hG, hx⟩ := ready_one (Decidable.not_not.1 h1)
  obtain ⟨M', e, _, hy⟩ := ready_one (Decidable.not_not.1 h2)
  exact ⟨M, rfl, hG, hx, by omega, by omega⟩
def patR (N : Int) (E : List (Int × Int)) (x y : Int) : List Int := if singleF N E [x, y] = 0 then pathF N.toNat E x y else []
def patC (N : Int) (E : List (Int × Int)) (x y : Int) : Int := if singleF N E [x, y] = 0 then (match dst N.toNat E x y with | none => 10 | some _ => 0) else singleF N E [x, y]
theorem ready_ok {N : Int} {E : List (Int × Int)} {L : List Int} (h : readyF N E L = 0) : ∃ M : Nat, N = M ∧ Gr M E ∧ checkF M E = 0 ∧ (∀ x ∈ L, 0 ≤ x ∧ x < M) ∧ ascF L = true := by
  unfold readyF at h
  split at h
  · rename_i h1; exact absurd h h1
  rename_i h1
  have h0 := Decidable.not_not.1 h1
  obtain ⟨M, rfl, hG, _⟩ := checkF_ok h0
  split at h
  · cases h
  rename_i h2
  split at h
  · rename_i h3
    refine ⟨M, rfl, hG, h0, fun x hx => ?_, h3⟩
    have := List.any_eq_false.1 (Bool.not_eq_true _ ▸ h2) x hx
    simp only [beyondF, Bool.or_eq_true, decide_eq_true_eq, not_or] at this
    omega
  · cases h
def reaR (N : Int) (E : List (Int × Int)) (L : List Int) : List Int := if readyF N E L = 0 then lst (rchL N.toNat E L) else []
theorem Reach_spec {a a1 : Option Addr} {n c n1 c1 : Nat} {E : List (Int × Int)} {L : List Int} (N : Int) (w : World) (hL : Sl (encF fE) 2 (Hp.whole w) a n c E) (hM : Sl (encF fI) 1 (Hp.whole w) a1 n1 c1 L) (hl : L.length < 1000000000) :
    CallsE Tryd.prog 39 #[gv N a n c, .slice a1 n1 c1] w (RetI w (reaR N E L) (readyF N E L)) := by
  refine enter (X := cx 17) (cxg _) (args := [.agg #[.int .i64 N, .slice a n c], .slice a1 n1 c1]) [.tmp 4, .tmp 5] Tryd.func39 rfl rfl rfl rfl rfl ?_
  intro b1
  refine callV _ (fun w' hm => ready_spec N w' (hL.mono (encF_mono _) (hm 0 _ rfl)) (hM.mono (encF_mono _) (hm 0 _ rfl)) hl) ?_
  refine bsplitd (fun h => ?_) (fun h => ?_)
  · refine ⟨[.hp Hp.emp], ⟨Os.nil, rfl, rfl, ?_⟩, fun w' h => (h.pick [0] rfl rfl).emp⟩
    unfold reaR; rw [if_neg h]; exact OwnO.nil _ _ _
  have h0 : readyF N E L = 0 := Decidable.not_not.1 h
  obtain ⟨M, rfl, hG, _, hr, _⟩ := ready_ok h0
  have hN := hG.hN
  have er : reaR M E L = lst (rchL M E L) := by unfold reaR; rw [if_pos h0]; rfl
  refine call (fun w' hm => reach_spec M w' (hL.mono (encF_mono _) (hm 0 _ rfl)) (hM.mono (encF_mono _) (hm 0 _ rfl)) hG hr hl) ?_
  rintro _ _ ⟨o, rfl, rfl, ho⟩
  have hs := OwnO.sl (f := fB) (fun _ => rfl) (by decide) ho
  refine call (fun w' hm => listed_spec w' (hs.mono (encF_mono _) (hm 2 _ rfl)) (by simp [rchL]; omega)) ?_
  rintro _ _ ⟨o2, rfl, rfl, ho2⟩
  exact ⟨[.hp o2.h], ⟨o2, by rw [h0], rfl, by rw [er]; exact ho2⟩, fun w' h => h.pick [0, 3] rfl rfl⟩
def leaves (L : List Int) (e : Int × Int) : Bool := decide (e.1 ∈ L) && !decide (e.2 ∈ L)
def cloR (N : Int) (E : List (Int × Int)) (L : List Int) : Bool := if readyF N E L = 0 then !E.any (leaves L) else false
def closR (N : Int) (E : List (Int × Int)) : List (List Int) := if checkF N E = 0 then (cloF N.toNat E).map lst else []
theorem lst_len (S : List Bool) : (lst S).length ≤ S.length := by
  unfold lst; rw [List.length_map]; exact Nat.le_trans (List.length_filter_le _ _) (by simp)
theorem Closure_spec {a : Option Addr} {n c : Nat} {E : List (Int × Int)} (N : Int) (w : World) (hL : Sl (encF fE) 2 (Hp.whole w) a n c E) :
    CallsE Tryd.prog 44 #[gv N a n c] w (RetR w (closR N E) (checkF N E)) := by
  refine enter (X := cx 27) (cxg _) (args := [.agg #[.int .i64 N, .slice a n c]]) [.tmp 2, .tmp 3] Tryd.func44 rfl rfl rfl rfl rfl ?_
  intro b1
  refine callV _ (fun w' hm => check_spec N w' (hL.mono (encF_mono _) (hm 0 _ rfl))) ?_
  refine bsplitd (fun h => ?_) (fun h => ?_)
  · refine ⟨[.hp Hp.emp], ⟨none, 0, 0, Hp.emp, rfl, rfl, ?_⟩, fun w' h => (h.pick [0] rfl rfl).emp⟩
    unfold closR; rw [if_neg h]; exact Sl.nil _ _ _ _ _
  have h0 : checkF N E = 0 := Decidable.not_not.1 h
  obtain ⟨M, rfl, hG, _⟩ := checkF_ok h0
  have hN := hG.hN
  have er : closR M E = (cloF M E).map lst := by unfold closR; rw [if_pos h0]; rfl
  have hcl : (cloF M E).length = M := by simp [cloF]
  refine call (fun w' hm => closure_spec M w' (hL.mono (encF_mono _) (hm 0 _ rfl)) hG) ?_
  rintro _ _ ⟨a2, c2, hx, rfl, rfl, hX⟩
  refine NeedL.mkS (Nat × Dw.Os × List Dw.Os × Hp) (fun g => [(5, .v g.2.1.v), (14, .v (.slice a2 M c2)), (15, .v (.int .i64 M)), (16, .v (.int .i64 g.1))]) (fun g => [.hp (Hp.whole w), .hp hx, .hp g.2.1.h, .hp g.2.2.2])
    (fun g => g.1 ≤ M ∧ OwnO Os.row 35 1 g.2.1 g.2.2.1 ∧ Rws fI 3 1 g.2.2.2 g.2.2.1 (((cloF M E).take g.1).map lst)) (fun g => M - g.1) (0, Os.nil, [], Hp.emp)
    ⟨Nat.zero_le _, OwnO.nil _ _ _, Rws.nil _ _ _ _⟩ (Ent.mk (fun _ _ h => (h.pick [0, 2] rfl rfl).emp.emp) rfl rfl) ?_
  rintro ⟨k, oR, os, H⟩ ⟨hk, hoR, hr⟩ hsat
  dsimp only at *
  have hrl : os.length = k := by rw [hr.len, List.length_map, List.length_take]; omega
  refine bsplitd (fun hlt => ?_) (fun hge => ?_)
  · have hkc : k < (cloF M E).length := by omega
    refine idx (cxg _) (e := 95) rfl hX k rfl hkc (fun b1 o1 cs hcs hR hcell => ?_)
    obtain ⟨a3, n3, c3, rfl, hs3⟩ := hR
    refine ld1 (cxg _) (i := 1) rfl (hcell 0 _ rfl) rfl ?_
    have h3l : ((cloF M E)[k]).length = M := by simp [cloF, rchL]
    have hp := fun (w' : World) (hm : hx.In w') => listed_spec (S := (cloF M E)[k]'hkc) w' (hs3.mono (encF_mono _) hm) (by omega)
    refine callS (fun w' hm => hp w' (hm 1 _ rfl)) ?_
    rintro _ _ ⟨o4, rfl, rfl, ho4⟩ hsat2
    intro b5
    refine appO (f := Os.row) (cxg _) (e := 35) rfl (i := 2) rfl hoR (j := 5) o4 rfl rfl rfl rfl (by omega) (fun oR' hoR' => ?_)
    refine nw (by omega) (by omega) ?_
    refine ⟨(k + 1, oR', os ++ [o4], H.join o4.h), ⟨by dsimp only; omega, hoR', ?_⟩, by dsimp only; omega, Ent.mk (fun _ _ h => Ok.pick [0, 2, 3, 1] rfl rfl (Ok.join (c := .hp (Hp.whole w)) (Ok.pick [0, 3, 4, 1, 2] rfl rfl h))) rfl rfl⟩
    dsimp only
    rw [List.take_succ_eq_append_getElem hkc, List.map_append]
    exact hr.push ho4 (hsat2.dj 3 4 rfl rfl (by decide))
  · rw [List.take_of_length_le (by omega)] at hr
    have hh := Rws.sl (f := fI) (fun _ => rfl) (by decide) hr hoR (hsat.dj 2 3 rfl rfl (by decide))
    exact ⟨[.hp (oR.h.join H)], ⟨oR.a, oR.n, oR.c, _, by rw [h0]; rfl, rfl, by rw [er]; exact hh⟩, fun w' h => Ok.join (c := .hp (Hp.whole w)) (d := .hp oR.h) (e := .hp H) (s := []) (h.pick [0, 2, 3] rfl rfl)⟩
end Go.Proofs.YtbcjdjlihhlkaaaDoor
namespace Go.Proofs.YtbcjdjlihhlkaaaDoor
open Go Go.RowKit Go.Dw
/-- a node whose turn it is -/
def rdy (E : List (Int × Int)) (D : List Int) (v : Nat) : Bool := !decide ((v : Int) ∈ D) && E.all fun e => !decide (e.2 = (v : Int)) || decide (e.1 ∈ D)
/-- the order, after i rounds -/
def ordK (N : Nat) (E : List (Int × Int)) : Nat → Option (List Int)
  | 0 => some []
  | i + 1 => match ordK N E i with
    | none => none
    | some D => match (List.range N).find? (rdy E D) with
      | none => none
      | some k => some (D ++ [(k : Int)])
def ordR (N : Int) (E : List (Int × Int)) : List Int := if checkF N E = 0 then (ordK N.toNat E N.toNat).getD [] else []
def ordC (N : Int) (E : List (Int × Int)) : Int := if checkF N E = 0 then (match ordK N.toNat E N.toNat with | none => 30 | some _ => 0) else checkF N E
/-- edges into a node whose begins are not done -/
def cntI (E : List (Int × Int)) (D : List Int) (v : Nat) : Int := ((E.filter fun e => decide (e.2 = (v : Int)) && !decide (e.1 ∈ D)).length : Int)
def cntL (N : Nat) (E : List (Int × Int)) (D : List Int) : List Int := (List.range N).map fun v => cntI E D v
def decL (N : Nat) (E : List (Int × Int)) (D S : List Int) : List Int := (List.range N).map fun v => cntI E D v - ((S.filter fun t => decide (t = (v : Int))).length : Int)
def doneL (N : Nat) (D : List Int) : List Bool := (List.range N).map fun v : Nat => decide ((v : Int) ∈ D)
theorem range_set {α : Type} (N i : Nat) (f : Nat → α) (x : α) : ((List.range N).map f).set i x = (List.range N).map fun v => if v = i then x else f v := by
  apply List.ext_getElem
  · simp
  · intro j h1 h2
    rw [List.getElem_set]
    simp only [List.getElem_map, List.getElem_range]
    by_cases h : i = j
    · subst h; simp
    · rw [if_neg h, if_neg (by omega)]
theorem cntI_step {E : List (Int × Int)} {k : Nat} (hk : k < E.length) (v : Nat) : cntI (E.take (k + 1)) [] v = cntI (E.take k) [] v + (if E[k].2 = (v : Int) then 1 else 0) := by
  unfold cntI
  rw [List.take_succ_eq_append_getElem hk, List.filter_append, List.length_append]
  by_cases h : E[k].2 = (v : Int) <;> simp [h]
theorem cntI_le (E : List (Int × Int)) (D : List Int) (v : Nat) : 0 ≤ cntI E D v ∧ cntI E D v ≤ E.length := by
  unfold cntI
  have := List.length_filter_le (fun e : Int × Int => decide (e.2 = (v : Int)) && !decide (e.1 ∈ D)) E
  omega
theorem rdy_iff {E : List (Int × Int)} {D : List Int} {v : Nat} : rdy E D v = true ↔ (v : Int) ∉ D ∧ cntI E D v = 0 := by
  unfold rdy cntI
  simp only [Bool.and_eq_true, Bool.not_eq_true', decide_eq_false_iff_not, List.all_eq_true, Bool.or_eq_true, decide_eq_true_eq]
  constructor
  · rintro ⟨h1, h2⟩
    refine ⟨h1, ?_⟩
    have : (E.filter fun e => decide (e.2 = (v : Int)) && !decide (e.1 ∈ D)) = [] := by
      rw [List.filter_eq_nil_iff]
      intro e he
      simp only [Bool.and_eq_true, decide_eq_true_eq, Bool.not_eq_true', decide_eq_false_iff_not]
      rintro ⟨h3, h4⟩
      rcases h2 e he with h | h
      · exact h h3
      · exact h4 h
    rw [this]; rfl
  · rintro ⟨h1, h2⟩
    refine ⟨h1, fun e he => ?_⟩
    have h3 : (E.filter fun e => decide (e.2 = (v : Int)) && !decide (e.1 ∈ D)) = [] := List.eq_nil_of_length_eq_zero (by omega)
    rw [List.filter_eq_nil_iff] at h3
    have := h3 e he
    simp only [Bool.and_eq_true, decide_eq_true_eq, Bool.not_eq_true', decide_eq_false_iff_not] at this
    by_cases h : e.2 = (v : Int)
    · right; exact Decidable.not_not.1 fun h4 => this ⟨h, h4⟩
    · left; exact h
theorem cntI_snoc (D : List Int) (k v : Nat) (hk : (k : Int) ∉ D) : ∀ E : List (Int × Int), cntI E (D ++ [(k : Int)]) v = cntI E D v - (((succs E k).filter fun t => decide (t = (v : Int))).length : Int)
  | [] => by simp [cntI, succs]
  | e :: E => by
    have ih := cntI_snoc D k v hk E
    unfold cntI succs at *
    simp only [List.filter_cons]
    by_cases h1 : e.2 = (v : Int)
    · by_cases h2 : e.1 ∈ D
      · have h3 : ¬ e.1 = (k : Int) := fun h => hk (h ▸ h2)
        simp [h1, h2, h3] at ih ⊢
        exact ih
      · by_cases h3 : e.1 = (k : Int)
        · simp [h1, h3, hk] at ih ⊢
          omega
        · simp [h1, h2, h3] at ih ⊢
          omega
    · by_cases h3 : e.1 = (k : Int)
      · simp [h1, h3] at ih ⊢
        exact ih
      · simp [h1, h3] at ih ⊢
        exact ih
theorem decL_end {N : Nat} {E : List (Int × Int)} {D : List Int} {k : Nat} (hk : (k : Int) ∉ D) : decL N E D (succs E k) = cntL N E (D ++ [(k : Int)]) := by
  unfold decL cntL
  refine List.map_congr_left fun v _ => ?_
  rw [cntI_snoc D k v hk]
theorem doneL_snoc {N : Nat} {D : List Int} {k : Nat} : doneL N (D ++ [(k : Int)]) = (doneL N D).set k true := by
  unfold doneL
  rw [range_set]
  refine List.map_congr_left fun v _ => ?_
  by_cases h : v = k
  · subst h; simp
  · have : ¬ ((v : Int) = k) := by omega
    simp [h, this]
theorem ordK_len {N : Nat} {E : List (Int × Int)} : ∀ (i : Nat) (D : List Int), ordK N E i = some D → D.length = i
  | 0, D, h => by cases h; rfl
  | i + 1, D, h => by
    unfold ordK at h
    split at h
    · cases h
    · rename_i D' hD
      split at h
      · cases h
      · cases h
        rw [List.length_append, ordK_len i D' hD]; rfl
theorem cntL_step {N : Nat} {E : List (Int × Int)} {k v : Nat} (hk : k < E.length) (hv : E[k].2 = v) : (cntL N (E.take k) []).set v (cntI (E.take k) [] v + 1) = cntL N (E.take (k + 1)) [] := by
  unfold cntL
  rw [range_set]
  refine List.map_congr_left fun u _ => ?_
  rw [cntI_step hk]
  by_cases h : u = v
  · subst h; simp [hv]
  · have : ¬ (E[k].2 = (u : Int)) := by omega
    simp [h, this]
theorem decL_step {N : Nat} {E : List (Int × Int)} {D S : List Int} {m v : Nat} (hm : m < S.length) (hv : S[m] = v) : (decL N E D (S.take m)).set v (cntI E D v - (((S.take m).filter fun t => decide (t = (v : Int))).length : Int) - 1) = decL N E D (S.take (m + 1)) := by
  unfold decL
  rw [range_set]
  refine List.map_congr_left fun u _ => ?_
  rw [List.take_succ_eq_append_getElem hm, List.filter_append, List.length_append]
  by_cases h : u = v
  · subst h; simp [hv]; omega
  · have : ¬ (S[m] = (u : Int)) := by omega
    simp [h, this]
end Go.Proofs.YtbcjdjlihhlkaaaDoor
namespace Go.Proofs.YtbcjdjlihhlkaaaDoor
open Go Go.RowKit Go.Dw
/-- the length of the shortest walk of at most s edges -/
def lv (E : List (Int × Int)) (a : Int) (s : Nat) (b : Int) : Option Nat := least (fun t => wlk E t a b) (s + 1)
def midV (E : List (Int × Int)) (a : Int) (s : Nat) (M : List (Int × Int)) (b : Int) : Int := match lv E a s b with
  | some t => t
  | none => if M.any (fun e => decide (e.2 = b) && decide (lv E a s e.1 = some s)) then (s : Int) + 1 else -1
def rowT (N : Nat) (E : List (Int × Int)) (a : Int) (s : Nat) (M : List (Int × Int)) : List Int := (List.range N).map fun b : Nat => midV E a s M b
def tabF (N : Nat) (E : List (Int × Int)) : List (List Int) := (List.range N).map fun a : Nat => (List.range N).map fun b : Nat => dz (dst N E a b)
theorem lv_succ (E : List (Int × Int)) (a : Int) (s : Nat) (b : Int) : lv E a (s + 1) b = match lv E a s b with | some t => some t | none => if wlk E (s + 1) a b then some (s + 1) else none := by
  unfold lv; rw [least]; cases least (fun t => wlk E t a b) (s + 1) <;> rfl
theorem rowT_init (N : Nat) (E : List (Int × Int)) (a : Nat) : rowT N E a 0 [] = ((List.range N).map fun _ => (-1 : Int)).set a 0 := by
  rw [range_set]
  unfold rowT
  refine List.map_congr_left fun b _ => ?_
  have : lv E a 0 b = if b = a then some 0 else none := by
    unfold lv least least wlk
    by_cases h : b = a
    · subst h; simp
    · have : ¬ ((a : Int) = b) := by omega
      simp [h, this]
  unfold midV
  rw [this]
  by_cases h : b = a <;> simp [h]
theorem any_snoc {α : Type} {p : α → Bool} {L : List α} {k : Nat} (hk : k < L.length) : (L.take (k + 1)).any p = ((L.take k).any p || p L[k]) := by
  rw [List.take_succ_eq_append_getElem hk, List.any_append, List.any_cons, List.any_nil, Bool.or_false]
theorem midV_eq {E : List (Int × Int)} {a : Int} {s : Nat} {M : List (Int × Int)} {b : Int} : midV E a s M b = s ↔ lv E a s b = some s := by
  unfold midV
  cases h : lv E a s b with
  | some t => simp only [Option.some.injEq]; omega
  | none =>
    simp only [reduceCtorEq, iff_false]
    split <;> omega
theorem rowT_hit {N : Nat} {E : List (Int × Int)} {a : Int} {s k v : Nat} (hk : k < E.length) (hv : E[k].2 = v) (h1 : midV E a s (E.take k) E[k].1 = s) (h2 : midV E a s (E.take k) v < 0) :
    (rowT N E a s (E.take k)).set v ((s : Int) + 1) = rowT N E a s (E.take (k + 1)) := by
  have h1' := midV_eq.1 h1
  unfold rowT
  rw [range_set]
  refine List.map_congr_left fun b _ => ?_
  by_cases hb : b = v
  · subst hb
    rw [if_pos rfl]
    unfold midV at h2 ⊢
    cases hl : lv E a s b with
    | some t => rw [hl] at h2; dsimp only at h2; omega
    | none =>
      dsimp only
      rw [any_snoc hk, decide_eq_true hv, decide_eq_true h1', Bool.true_and, Bool.or_true, if_pos rfl]
  · rw [if_neg hb]
    have hne : ¬ E[k].2 = (b : Int) := by omega
    unfold midV
    rw [any_snoc hk, decide_eq_false hne, Bool.false_and, Bool.or_false]
theorem rowT_miss {N : Nat} {E : List (Int × Int)} {a : Int} {s k v : Nat} (hk : k < E.length) (hv : E[k].2 = v) (h : ¬ (midV E a s (E.take k) E[k].1 = s ∧ midV E a s (E.take k) v < 0)) :
    rowT N E a s (E.take (k + 1)) = rowT N E a s (E.take k) := by
  unfold rowT
  refine List.map_congr_left fun b _ => ?_
  by_cases hb : b = v
  · subst hb
    by_cases h1 : lv E a s E[k].1 = some s
    · have h2 : ¬ midV E a s (E.take k) b < 0 := fun h3 => h ⟨midV_eq.2 h1, h3⟩
      unfold midV at h2 ⊢
      cases hl : lv E a s b with
      | some t => rfl
      | none =>
        rw [hl] at h2
        dsimp only at h2 ⊢
        rw [any_snoc hk]
        split at h2
        · rename_i h4; rw [h4]; rfl
        · omega
    · unfold midV
      rw [any_snoc hk, decide_eq_false h1, Bool.and_false, Bool.or_false]
  · have hne : ¬ E[k].2 = (b : Int) := by omega
    unfold midV
    rw [any_snoc hk, decide_eq_false hne, Bool.false_and, Bool.or_false]
theorem rowT_pass (N : Nat) (E : List (Int × Int)) (a : Int) (s : Nat) : rowT N E a s E = rowT N E a (s + 1) [] := by
  unfold rowT
  refine List.map_congr_left fun b _ => ?_
  unfold midV
  rw [lv_succ]
  cases hl : lv E a s b with
  | some t => rfl
  | none =>
    dsimp only
    have key : (E.any fun e => decide (e.2 = (b : Int)) && decide (lv E a s e.1 = some s)) = wlk E (s + 1) a b := by
      rw [Bool.eq_iff_iff, wlk_succ]
      simp only [List.any_eq_true, Bool.and_eq_true, decide_eq_true_eq]
      constructor
      · rintro ⟨e, he, h1, h2⟩
        exact ⟨e.1, by rw [← h1]; exact he, (least_some h2).2.1⟩
      · rintro ⟨c, hc, hw⟩
        refine ⟨(c, b), hc, rfl, ?_⟩
        obtain ⟨t, ht⟩ := least_ex (p := fun t => wlk E t a c) (Nat.lt_succ_self s) hw
        have h3 := least_some ht
        have : t = s := by
          refine Classical.byContradiction fun hne => ?_
          have h4 : wlk E (t + 1) a b = true := wlk_succ.2 ⟨c, hc, h3.2.1⟩
          have := least_none hl (t + 1) (by omega)
          rw [h4] at this; cases this
        rw [← this] at ht ⊢
        unfold lv
        exact ht
    rw [key]
    cases wlk E (s + 1) a b <;> simp
theorem rowT_end {N : Nat} {E : List (Int × Int)} (hG : Gr N E) {a : Nat} (ha : a < N) : rowT N E a N [] = (List.range N).map fun b : Nat => dz (dst N E a b) := by
  unfold rowT
  refine List.map_congr_left fun b _ => ?_
  have : lv E a N b = dst N E a b := by
    unfold lv dst
    rw [least]
    cases hl : least (fun t => wlk E t a b) N with
    | some t => rfl
    | none =>
      dsimp only
      cases hw : wlk E N a b with
      | false => rfl
      | true =>
        obtain ⟨t, h1, h2⟩ := wlk_short hG ⟨by omega, by omega⟩ hw
        rw [least_none hl t h1] at h2; cases h2
  unfold midV
  rw [this]
  cases dst N E a b <;> simp [dz]
end Go.Proofs.YtbcjdjlihhlkaaaDoor
namespace Go.Proofs.YtbcjdjlihhlkaaaDoor
open Go Go.RowKit Go.Dw
/-- the first node behind a that is s edges before b; a if there is none -/
def nxR (N : Nat) (E : List (Int × Int)) (b a : Int) (s : Nat) : Int := (((List.range N).find? fun v : Nat => hasF E a v && decide (dz (dst N E v b) = (s : Int))).map fun v : Nat => (v : Int)).getD a
def wkR (N : Nat) (E : List (Int × Int)) (b : Int) : Nat → Int → List Int
  | 0, a => [a]
  | s + 1, a => a :: wkR N E b s (nxR N E b a s)
theorem wkR_len (N : Nat) (E : List (Int × Int)) (b : Int) : ∀ (s : Nat) (k : Int), (wkR N E b s k).length = s + 1
  | 0, k => rfl
  | s + 1, k => by simp [wkR, wkR_len N E b s]
theorem wkR_cons (N : Nat) (E : List (Int × Int)) (b : Int) (s : Nat) (k : Int) : wkR N E b s k = k :: (wkR N E b s k).tail := by cases s <;> rfl
theorem nxR_rng {N : Nat} {E : List (Int × Int)} {b a : Int} {s : Nat} (ha : 0 ≤ a ∧ a < N) : 0 ≤ nxR N E b a s ∧ nxR N E b a s < N := by
  unfold nxR
  cases h : (List.range N).find? fun v : Nat => hasF E a v && decide (dz (dst N E v b) = (s : Int)) with
  | none => exact ha
  | some v =>
    have := List.mem_range.1 (List.mem_of_find?_eq_some h)
    simp only [Option.map_some, Option.getD_some]; omega
theorem tab_get {N : Nat} {E : List (Int × Int)} {v : Nat} (h : v < (tabF N E).length) : (tabF N E)[v] = (List.range N).map fun b : Nat => dz (dst N E v b) := by simp [tabF]
theorem row_get {N : Nat} {E : List (Int × Int)} {v : Int} {b : Nat} (h : b < ((List.range N).map fun b : Nat => dz (dst N E v b)).length) : ((List.range N).map fun b : Nat => dz (dst N E v b))[b] = dz (dst N E v b) := by simp
end Go.Proofs.YtbcjdjlihhlkaaaDoor
namespace Go.Proofs.YtbcjdjlihhlkaaaDoor
open Go Go.RowKit Go.Dw
end Go.Proofs.YtbcjdjlihhlkaaaDoor
namespace Go.Proofs.YtbcjdjlihhlkaaaDoor
open Go Go.RowKit Go.Dw
def rpa (N : Nat) (E : List (Int × Int)) (x y : Int) : List Int := match dst N E x y with | none => [] | some s => wkR N E y s x
def rpe (N : Nat) (E : List (Int × Int)) (x y : Int) : Int := match dst N E x y with | none => 10 | some _ => 0
def fillK (N k : Nat) (f : Nat → Int) : List Int := (List.range N).map fun i => if i < k then f i else 0
theorem fillK_zero (N : Nat) (f : Nat → Int) : fillK N 0 f = List.replicate N 0 := by
  apply List.ext_getElem
  · simp [fillK]
  · intro i h1 h2; simp [fillK]
theorem fillK_succ (N k : Nat) (f : Nat → Int) : fillK N (k + 1) f = (fillK N k f).set k (f k) := by
  unfold fillK
  rw [range_set]
  refine List.map_congr_left fun v _ => ?_
  by_cases h : v = k
  · subst h; simp
  · by_cases h2 : v < k
    · rw [if_pos (by omega), if_neg h, if_pos h2]
    · rw [if_neg (by omega), if_neg h, if_neg h2]
theorem fillK_end (N : Nat) (f : Nat → Int) : fillK N N f = (List.range N).map f := by
  unfold fillK
  exact List.map_congr_left fun v hv => if_pos (List.mem_range.1 hv)
theorem rpa_len {N : Nat} {E : List (Int × Int)} {x y : Int} (hN : N ≤ 64) : (rpa N E x y).length ≤ 65 := by
  unfold rpa
  cases h : dst N E x y with
  | none => simp
  | some s => simp only [wkR_len]; have := (dst_some h).1; omega
end Go.Proofs.YtbcjdjlihhlkaaaDoor
namespace Go.Proofs.YtbcjdjlihhlkaaaDoor
open Go Go.RowKit Go.Dw
theorem sortedF_srt {L : List (Int × Int)} (h : sortedF L = true) : Srt L := by
  unfold sortedF at h
  rw [List.all_eq_true] at h
  have adj : ∀ i (hi : i + 1 < L.length), elt L[i] L[i + 1] := fun i hi => by
    have := h i (List.mem_range.2 (by omega))
    rw [decide_eq_true_eq, order_lt] at this
    have e1 : L.getD i (0, 0) = L[i] := by simp [List.getD, show i < L.length by omega]
    have e2 : L.getD (i + 1) (0, 0) = L[i + 1] := by simp [List.getD, hi]
    rw [e1, e2] at this
    exact this
  have all : ∀ d i (hi : i + 1 + d < L.length), elt L[i] L[i + 1 + d] := fun d => by
    induction d with
    | zero => intro i hi; exact adj i hi
    | succ d ih => intro i hi; exact elt_trans (ih i (by omega)) (adj (i + 1 + d) hi)
  refine List.pairwise_iff_getElem.2 fun i j hi hj hij => ?_
  have := all (j - i - 1) i (by omega)
  have e : i + 1 + (j - i - 1) = j := by omega
  simp only [e] at this
  exact this
theorem rowK_mem {E : List (Int × Int)} {a k : Nat} {x : Int × Int} : x ∈ rowK E a k ↔ x ∈ E ∧ x.1 = a ∧ 0 ≤ x.2 ∧ x.2 < k := by
  unfold rowK
  simp only [List.mem_map, List.mem_filter, List.mem_range, hasF_iff]
  constructor
  · rintro ⟨j, ⟨hj, hm⟩, rfl⟩; exact ⟨hm, rfl, by dsimp only; omega, by dsimp only; omega⟩
  · rintro ⟨hm, h1, h2, h3⟩
    have e2 := Int.toNat_of_nonneg h2
    exact ⟨x.2.toNat, ⟨by omega, by rw [e2, ← h1]; exact hm⟩, by rw [e2, ← h1]⟩
theorem succs_row {N : Nat} {E : List (Int × Int)} (hG : Gr N E) (hs : Srt E) (k : Nat) : succs E k = ((List.range N).filter fun b : Nat => hasF E k b).map fun b : Nat => (b : Int) := by
  have h1 : (E.filter fun e => e.1 == (k : Int)) = rowK E k N := by
    refine Srt.ext (List.Pairwise.filter _ hs) (rowK_srt E k N) fun x => ?_
    rw [rowK_mem, List.mem_filter, beq_iff_eq]
    constructor
    · rintro ⟨h, h2⟩; have := hG.rng _ h; exact ⟨h, h2, this.2.2.1, this.2.2.2⟩
    · rintro ⟨h, h2, _⟩; exact ⟨h, h2⟩
  unfold succs
  rw [h1]
  unfold rowK
  rw [List.map_map]
  rfl
theorem stp_nx {N : Nat} {E : List (Int × Int)} (hG : Gr N E) (hs : Srt E) {b : Int} {k : Nat} {s : Nat} (h : dst N E k b = some (s + 1)) : stp N E b k = nxR N E b k s := by
  unfold stp nxR
  rw [Int.toNat_natCast, succs_row hG hs, List.find?_map, List.find?_filter]
  have : (fun a : Nat => decide (hasF E k a = true ∧ (near N E b k ∘ fun b : Nat => (b : Int)) a = true)) = fun v : Nat => hasF E k v && decide (dz (dst N E v b) = (s : Int)) := by
    funext v
    unfold near
    simp only [Function.comp_apply]
    rw [h]
    have e : dz (some (s + 1)) - 1 = (s : Int) := by simp [dz]
    rw [e]
    by_cases h1 : hasF E k v = true <;> by_cases h2 : dz (dst N E v b) = (s : Int) <;> simp [h1, h2]
  rw [this]
theorem stp_dst {N : Nat} {E : List (Int × Int)} (hG : Gr N E) {b : Int} {k : Nat} (hk : k < N) {s : Nat} (h : dst N E k b = some (s + 1)) : dst N E (stp N E b k) b = some s ∧ ((k : Int), stp N E b k) ∈ E := by
  obtain ⟨t0, h1, h2⟩ := near_ex hG ⟨by omega, by omega⟩ h
  unfold stp
  cases hf : (succs E (k : Int).toNat).find? (near N E b k) with
  | none => rw [List.find?_eq_none] at hf; exact absurd h2 (hf t0 h1)
  | some t =>
    have h3 := List.find?_some hf
    have h4 := List.mem_of_find?_eq_some hf
    rw [Int.toNat_natCast] at h4
    exact ⟨near_dst h h3, mem_succs.1 h4⟩
theorem wkR_pth {N : Nat} {E : List (Int × Int)} (hG : Gr N E) (hs : Srt E) {b : Int} : ∀ (s : Nat) (k : Nat), k < N → dst N E k b = some s → wkR N E b s k = pth N E b s k
  | 0, k, _, _ => rfl
  | s + 1, k, hk, h => by
    obtain ⟨h1, h2⟩ := stp_dst hG hk h
    have hr := hG.rng _ h2
    have e := Int.toNat_of_nonneg hr.2.2.1
    dsimp only at hr e
    rw [wkR, pth, ← stp_nx hG hs h, ← e]
    rw [wkR_pth hG hs s _ (by omega) (by rw [e]; exact h1)]
theorem rpa_path {N : Nat} {E : List (Int × Int)} (hG : Gr N E) (hs : Srt E) {x y : Int} (hx : 0 ≤ x ∧ x < N) : rpa N E x y = pathF N E x y := by
  obtain ⟨v, rfl⟩ : ∃ v : Nat, x = v := ⟨_, (Int.toNat_of_nonneg hx.1).symm⟩
  unfold rpa pathF
  cases h : dst N E v y with
  | none => rfl
  | some s => exact wkR_pth hG hs s v (by omega) h
theorem path_self {N : Nat} {E : List (Int × Int)} (hG : Gr N E) {x : Int} (hx : 0 ≤ x ∧ x < N) : pathF N E x x = [x] := by
  unfold pathF; rw [dst_self hG hx]; rfl
theorem tree_eq {N : Nat} {E : List (Int × Int)} (hG : Gr N E) (hs : Srt E) {x : Int} (hx : 0 ≤ x ∧ x < N) : besK N N x (fun k => lastBut (pathF N E x k)) = (List.range N).map fun v : Nat => lastBut (rpa N E x v) := by
  unfold besK
  refine List.map_congr_left fun v hv => ?_
  have hvN := List.mem_range.1 hv
  rw [if_pos hvN, rpa_path hG hs hx]
  by_cases h : (v : Int) = x
  · rw [if_pos h, h, path_self hG hx]; rfl
  · rw [if_neg h]
theorem back_eq {N : Nat} {E : List (Int × Int)} (hG : Gr N E) (hs : Srt E) {x : Int} (hx : 0 ≤ x ∧ x < N) : besK N N x (fun k => second (pathF N E k x)) = (List.range N).map fun v : Nat => second (rpa N E v x) := by
  unfold besK
  refine List.map_congr_left fun v hv => ?_
  have hvN := List.mem_range.1 hv
  rw [if_pos hvN, rpa_path hG hs ⟨by omega, by omega⟩]
  by_cases h : (v : Int) = x
  · rw [if_pos h, h, path_self hG hx]; rfl
  · rw [if_neg h]
theorem single_fine {N : Nat} {E : List (Int × Int)} (h0 : checkF N E = 0) {x : Int} (hx : 0 ≤ x ∧ x < N) (r : List Int) : singleF N E (x :: r) = singleF N E r := by
  have : readyF N E [x] = 0 := by
    unfold readyF
    rw [if_neg (by rw [h0]; simp), if_neg (by simp [beyondF]; omega), if_pos (by unfold ascF; rfl)]
  rw [singleF, if_neg (by rw [this]; simp)]
end Go.Proofs.YtbcjdjlihhlkaaaDoor
namespace Go.Dw
open Go Go.RowKit
section
variable {P : Program} {s : List Ch}
theorem qMin {tys : Array TypeId} {ty : Nat} {x y : Int} {q : TV → List Ch → Prop} (h : q (.v (.int .i64 (min x y))) s) : NeedE P s (Builtin.min_ tys ty #[.int .i64 x, .int .i64 y]) q := by
  refine ⟨fun w0 w hok => ⟨_, _, w, s, ?_, hok, Keep.refl s, rfl, h⟩⟩
  simp [Builtin.min_, Builtin.min2, Int.min_def]
  split <;> split <;> (try rfl) <;> (congr 1; omega)
theorem qShr {xo yo : Operand} {ty : Nat} {x y : Int} (hy : 0 ≤ y) {q : TV → Prop} (h : q (.v (.int .u8 (x.fdiv (2 ^ (min y.toNat 8)))))) : NeedQ P s (do eqGuard .shr ty xo yo (.int .u8 x) (.int .i64 y); binOp .shr ty (.int .u8 x) (.int .i64 y)) q := by
  refine ⟨_, fun w _ => ?_, h⟩
  have h0 : ¬ y < 0 := by omega
  simp [eqGuard, binOp, Op.shift, h0, IntKind.bits]
theorem qAnd {ty : Nat} {x y : Int} {q : TV → Prop} (h : q (.v (.int .u8 (IntKind.u8.wrap ((BitVec.ofInt 8 x &&& BitVec.ofInt 8 y).toNat : Int))))) : NeedQ P s (binOp .and ty (.int .u8 x) (.int .u8 y)) q := by
  refine ⟨_, fun w _ => ?_, h⟩
  rfl
end
end Go.Dw
namespace Go.Proofs.YtbcjdjlihhlkaaaDoor
open Go Go.RowKit Go.Dw
/-- is the bit of a node set? -/
def bitF (u : Int) (v : Nat) : Bool := decide (IntKind.u8.wrap ((BitVec.ofInt 8 (u.fdiv (2 ^ (min (v : Int).toNat 8))) &&& BitVec.ofInt 8 1).toNat : Int) = 1)
def chsK (u : Int) (k : Nat) : List Int := ((List.range k).filter (bitF u)).map fun v : Nat => (v : Int)
theorem chsK_succ (u : Int) (k : Nat) : chsK u (k + 1) = if bitF u k then chsK u k ++ [(k : Int)] else chsK u k := by
  unfold chsK
  rw [List.range_succ, List.filter_append, List.map_append]
  by_cases h : bitF u k <;> simp [h]
theorem chsK_len (u : Int) (k : Nat) : (chsK u k).length ≤ k := by
  unfold chsK; rw [List.length_map]; exact Nat.le_trans (List.length_filter_le _ _) (by simp)
/-! ### the reference -/
def isR (N : Nat) (E : List (Int × Int)) (L : List Int) (b : Nat) : Bool := L.any fun x => decide (0 ≤ dz (dst N E x b))
def reaK (N : Nat) (E : List (Int × Int)) (L : List Int) (k : Nat) : List Int := ((List.range k).filter (isR N E L)).map fun v : Nat => (v : Int)
theorem reaK_succ (N : Nat) (E : List (Int × Int)) (L : List Int) (k : Nat) : reaK N E L (k + 1) = if isR N E L k then reaK N E L k ++ [(k : Int)] else reaK N E L k := by
  unfold reaK
  rw [List.range_succ, List.filter_append, List.map_append]
  by_cases h : isR N E L k <;> simp [h]
theorem reaK_len (N : Nat) (E : List (Int × Int)) (L : List Int) (k : Nat) : (reaK N E L k).length ≤ k := by
  unfold reaK; rw [List.length_map]; exact Nat.le_trans (List.length_filter_le _ _) (by simp)
theorem rowV {N : Nat} {E : List (Int × Int)} {v : Int} {b : Nat} (h : b < ((List.range N).map fun b : Nat => dz (dst N E v b)).length) : ((List.range N).map fun b : Nat => dz (dst N E v b))[b] = dz (dst N E v b) := by simp
theorem tabV {N : Nat} {E : List (Int × Int)} {v : Nat} (h : v < (tabF N E).length) : (tabF N E)[v] = (List.range N).map fun b : Nat => dz (dst N E v b) := by simp [tabF]
end Go.Proofs.YtbcjdjlihhlkaaaDoor
namespace Go.Proofs.YtbcjdjlihhlkaaaDoor
open Go Go.RowKit Go.Dw
theorem isSome_dz {o : Option Nat} : o.isSome = decide (0 ≤ dz o) := by
  cases o with
  | none => rfl
  | some s => simp [dz]
theorem lst_rchL (N : Nat) (E : List (Int × Int)) (L : List Int) : lst (rchL N E L) = reaK N E L N := by
  unfold lst reaK
  have hl : (rchL N E L).length = N := by simp [rchL]
  rw [hl]
  congr 1
  refine List.filter_congr fun b hb => ?_
  have hbN := List.mem_range.1 hb
  have : (rchL N E L).getD b false = L.any fun a => rch N E a b := by
    unfold rchL
    simp [List.getD, hbN]
  rw [this]
  unfold isR
  congr 1
  funext a
  unfold rch
  exact isSome_dz
theorem closR_eq {N : Nat} {E : List (Int × Int)} : (cloF N E).map lst = (List.range N).map fun x : Nat => reaK N E [(x : Int)] N := by
  unfold cloF
  rw [List.map_map]
  refine List.map_congr_left fun x _ => ?_
  exact lst_rchL N E [(x : Int)]
theorem mem_cast {N : Nat} {p : Nat → Bool} {x : Int} : x ∈ ((List.range N).filter p).map (fun v : Nat => (v : Int)) ↔ ∃ v : Nat, v < N ∧ p v = true ∧ x = v := by
  simp only [List.mem_map, List.mem_filter, List.mem_range]
  constructor
  · rintro ⟨v, ⟨h1, h2⟩, rfl⟩; exact ⟨v, h1, h2, rfl⟩
  · rintro ⟨v, h1, h2, rfl⟩; exact ⟨v, ⟨h1, h2⟩, rfl⟩
theorem chs_rng {u : Int} {N : Nat} {x : Int} (h : x ∈ chsK u N) : 0 ≤ x ∧ x < N := by
  obtain ⟨v, h1, _, rfl⟩ := mem_cast.1 h; omega
theorem asc_of {L : List Int} (h : L.Pairwise (· < ·)) : ascF L = true := by
  unfold ascF
  rw [List.all_eq_true]
  intro i hi
  have hi' : i + 1 < L.length := by have := List.mem_range.1 hi; omega
  have e1 : L.getD i 0 = L[i] := by simp [List.getD, show i < L.length by omega]
  have e2 : L.getD (i + 1) 0 = L[i + 1] := by simp [List.getD, hi']
  have := List.pairwise_iff_getElem.1 h i (i + 1) (by omega) hi' (by omega)
  rw [e1, e2]
  simp only [decide_eq_true_eq]
  omega
theorem cast_asc (N : Nat) (p : Nat → Bool) : (((List.range N).filter p).map fun v : Nat => (v : Int)).Pairwise (· < ·) := by
  rw [List.pairwise_map]
  refine List.Pairwise.filter _ (List.Pairwise.imp (fun {x y} h => ?_) (pw_range N))
  omega
theorem ready_chs {N : Nat} {E : List (Int × Int)} (h0 : checkF N E = 0) (u : Int) : readyF N E (chsK u N) = 0 := by
  unfold readyF
  have ha : ascF (chsK u N) = true := asc_of (cast_asc N _)
  rw [if_neg (by rw [h0]; simp), if_neg, if_pos ha]
  rw [Bool.not_eq_true, List.any_eq_false]
  intro x hx
  have := chs_rng hx
  simp [beyondF]; omega
theorem filter_len {α : Type} {p q : α → Bool} : ∀ {l : List α}, (∀ v ∈ l, p v = true → q v = true) → ((l.filter q).length = (l.filter p).length ↔ ∀ v ∈ l, q v = true → p v = true)
  | [], _ => by simp
  | x :: l, h => by
    have ih := filter_len (l := l) fun v hv => h v (List.mem_cons_of_mem _ hv)
    have hle : (l.filter p).length ≤ (l.filter q).length := by
      have : ∀ {l : List α}, (∀ v ∈ l, p v = true → q v = true) → (l.filter p).length ≤ (l.filter q).length := by
        intro l h
        induction l with
        | nil => simp
        | cons y l ih =>
          have ih' := ih fun v hv => h v (List.mem_cons_of_mem _ hv)
          rw [List.filter_cons, List.filter_cons]
          cases hp : p y with
          | true => rw [h y (by simp) hp]; simp; exact ih'
          | false =>
            rw [if_neg Bool.false_ne_true]
            split
            · rw [List.length_cons]; omega
            · exact ih'
      exact this fun v hv => h v (List.mem_cons_of_mem _ hv)
    rw [List.filter_cons, List.filter_cons]
    cases hp : p x with
    | true =>
      have hq := h x (by simp) hp
      rw [hq, if_pos rfl, if_pos rfl, List.length_cons, List.length_cons, Nat.add_right_cancel_iff, ih]
      constructor
      · intro k v hv hqv
        rcases List.mem_cons.1 hv with rfl | hv
        · exact hp
        · exact k v hv hqv
      · intro k v hv hqv; exact k v (List.mem_cons_of_mem _ hv) hqv
    | false =>
      rw [if_neg Bool.false_ne_true]
      cases hq : q x with
      | true =>
        rw [if_pos rfl, List.length_cons]
        constructor
        · intro k; omega
        · intro k; have := k x (by simp) hq; rw [hp] at this; cases this
      | false =>
        rw [if_neg Bool.false_ne_true, ih]
        constructor
        · intro k v hv hqv
          rcases List.mem_cons.1 hv with rfl | hv
          · rw [hq] at hqv; cases hqv
          · exact k v hv hqv
        · intro k v hv hqv; exact k v (List.mem_cons_of_mem _ hv) hqv
theorem wlk_closed {E : List (Int × Int)} {L : List Int} (hc : E.any (leaves L) = false) {x : Int} (hx : x ∈ L) : ∀ {s : Nat} {y : Int}, wlk E s x y = true → y ∈ L
  | 0, y, h => by simp only [wlk, beq_iff_eq] at h; exact h ▸ hx
  | s + 1, y, h => by
    obtain ⟨z, h1, h2⟩ := wlk_succ.1 h
    have hz := wlk_closed hc hx h2
    have := List.any_eq_false.1 hc _ h1
    unfold leaves at this
    simp only [Bool.and_eq_true, decide_eq_true_eq, Bool.not_eq_true', decide_eq_false_iff_not] at this
    exact Classical.byContradiction fun hn => this ⟨hz, hn⟩
theorem isR_iff {N : Nat} {E : List (Int × Int)} (hG : Gr N E) {L : List Int} (hL : ∀ x ∈ L, 0 ≤ x ∧ x < N) {b : Nat} : isR N E L b = true ↔ ∃ x ∈ L, ∃ s, wlk E s x b = true := by
  unfold isR
  simp only [List.any_eq_true, decide_eq_true_eq]
  constructor
  · rintro ⟨x, hx, h⟩
    refine ⟨x, hx, ?_⟩
    cases hd : dst N E x b with
    | none => rw [hd] at h; simp [dz] at h
    | some s => exact ⟨s, (dst_some hd).2.1⟩
  · rintro ⟨x, hx, h⟩
    refine ⟨x, hx, ?_⟩
    have := (rch_iff hG (hL x hx)).2 h
    unfold rch at this
    rw [isSome_dz, decide_eq_true_eq] at this
    exact this
theorem closed_eq {N : Nat} {E : List (Int × Int)} (hG : Gr N E) (u : Int) : (!E.any (leaves (chsK u N))) = decide ((reaK N E (chsK u N) N).length = (chsK u N).length) := by
  have hin : ∀ v ∈ List.range N, bitF u v = true → isR N E (chsK u N) v = true := fun v hv hb =>
    (isR_iff hG fun x hx => chs_rng hx).2 ⟨v, mem_cast.2 ⟨v, List.mem_range.1 hv, hb, rfl⟩, 0, by simp [wlk]⟩
  have key := filter_len hin
  have e : (reaK N E (chsK u N) N).length = (chsK u N).length ↔ ∀ v ∈ List.range N, isR N E (chsK u N) v = true → bitF u v = true := by
    rw [← key]; unfold reaK chsK; rw [List.length_map, List.length_map]
  rw [Bool.eq_iff_iff, decide_eq_true_eq, e, Bool.not_eq_true']
  constructor
  · intro hc v hv hr
    obtain ⟨x, hx, s, hw⟩ := (isR_iff hG fun x hx => chs_rng hx).1 hr
    obtain ⟨v', _, hb, he⟩ := mem_cast.1 (wlk_closed hc hx hw)
    have : v = v' := by omega
    rw [this]; exact hb
  · intro h
    rw [List.any_eq_false]
    intro e he
    unfold leaves
    simp only [Bool.and_eq_true, decide_eq_true_eq, Bool.not_eq_true', decide_eq_false_iff_not]
    rintro ⟨h1, h2⟩
    have hr := hG.rng _ he
    obtain ⟨v, hv⟩ : ∃ v : Nat, e.2 = v := ⟨_, (Int.toNat_of_nonneg hr.2.2.1).symm⟩
    have := h v (List.mem_range.2 (by omega)) ((isR_iff hG fun x hx => chs_rng hx).2 ⟨e.1, h1, 1, wlk_succ.2 ⟨e.1, by rw [← hv]; exact he, by simp [wlk]⟩⟩)
    exact h2 (mem_cast.2 ⟨v, by omega, this, hv⟩)
end Go.Proofs.YtbcjdjlihhlkaaaDoor
namespace Go.Proofs.YtbcjdjlihhlkaaaDoor
open Go Go.RowKit Go.Dw
theorem idxBy_get {α : Type} {p : α → Bool} : ∀ {L : List α} {k : Nat}, idxBy p L = k → ∃ h : k < L.length, p L[k] = true
  | [], k, h => by simp [idxBy] at h
  | y :: r, k, h => by
    unfold idxBy at h
    by_cases hy : p y = true
    · rw [if_pos hy] at h
      have : k = 0 := by omega
      subst this
      exact ⟨by simp, hy⟩
    · rw [if_neg hy] at h
      have hg := idxBy_ge p r
      split at h
      · omega
      · obtain ⟨m, hm⟩ : ∃ m : Nat, idxBy p r = m := ⟨(idxBy p r).toNat, by omega⟩
        obtain ⟨h1, h2⟩ := idxBy_get hm
        have : k = m + 1 := by omega
        subst this
        exact ⟨by simp; exact h1, h2⟩
/-- the class of a node, as a place among the least ones -/
theorem of_get {N : Nat} {E : List (Int × Int)} (hG : Gr N E) {v : Nat} (hv : v < N) : ∃ k : Nat, ofv N E v = k ∧ ∃ h : k < (reps N E N).length, eqv N E (reps N E N)[k] v = true := by
  have he : ofv N E v = ofK N E N v := by unfold ofv ofF; simp [List.getD, hv]
  obtain ⟨r, h1, h2, h3⟩ := least_of hG v hv
  have hr : r ∈ reps N E N := by unfold reps; simp [h2]; omega
  have hn : ¬ ofK N E N v < 0 := fun hneg => by
    have := ofK_neg.1 hneg r hr
    rw [h3] at this; cases this
  obtain ⟨k, hk⟩ : ∃ k : Nat, ofK N E N v = k := ⟨(ofK N E N v).toNat, by omega⟩
  obtain ⟨h4, h5⟩ := idxBy_get (show idxBy (fun r => eqv N E r v) (reps N E N) = k from hk)
  exact ⟨k, he.trans hk, h4, h5⟩
theorem of_eq {N : Nat} {E : List (Int × Int)} (hG : Gr N E) {u v : Nat} (hu : u < N) (hv : v < N) : ofv N E u = ofv N E v ↔ eqv N E u v = true := by
  constructor
  · intro h
    obtain ⟨k, h1, h2, h3⟩ := of_get hG hu
    obtain ⟨m, h4, h5, h6⟩ := of_get hG hv
    have : k = m := by omega
    subst this
    have hk := (reps_lt (List.getElem_mem h2)).1
    exact eqv_trans hG hu hk hv (by rw [eqv_symm]; exact h3) h6
  · intro h
    have he : ∀ w : Nat, w < N → ofv N E w = ofK N E N w := fun w hw => by unfold ofv ofF; simp [List.getD, hw]
    rw [he u hu, he v hv]
    unfold ofK
    have : ∀ L : List Nat, (∀ r ∈ L, r < N) → idxBy (fun r => eqv N E r u) L = idxBy (fun r => eqv N E r v) L := by
      intro L
      induction L with
      | nil => intro _; rfl
      | cons x r ih =>
        intro hL
        have hx := hL x (by simp)
        have e : eqv N E x u = eqv N E x v := by
          rw [Bool.eq_iff_iff]
          exact ⟨fun k => eqv_trans hG hx hu hv k h, fun k => eqv_trans hG hx hv hu k (by rw [eqv_symm]; exact h)⟩
        simp only [idxBy, e]
        rw [ih fun r hr => hL r (by simp [hr])]
    exact this _ fun r hr => (reps_lt hr).1
theorem dd_mem' {L : List (Int × Int)} {x : Int × Int} : x ∈ dd (sortF L) ↔ x ∈ L := by rw [dd_mem, sortF_mem]
theorem comp_len (N : Nat) (E : List (Int × Int)) : (compF N E).length = (reps N E N).length := by unfold compF; rw [List.length_map]
theorem ofv_rng {N : Nat} {E : List (Int × Int)} (hG : Gr N E) {x : Int} (hx : 0 ≤ x ∧ x < N) : 0 ≤ ofv N E x ∧ ofv N E x < (compF N E).length := by
  obtain ⟨v, rfl⟩ : ∃ v : Nat, x = v := ⟨x.toNat, by omega⟩
  obtain ⟨k, h1, h2, _⟩ := of_get hG (v := v) (by omega)
  rw [comp_len]; omega
theorem condE_mem {N : Nat} {E : List (Int × Int)} {p : Int × Int} : p ∈ condE N E E ↔ ∃ e ∈ E, ofv N E e.1 ≠ ofv N E e.2 ∧ p = (ofv N E e.1, ofv N E e.2) := by
  unfold condE
  simp only [List.mem_map, List.mem_filter, decide_eq_true_eq]
  constructor
  · rintro ⟨e, ⟨h1, h2⟩, rfl⟩; exact ⟨e, h1, h2, rfl⟩
  · rintro ⟨e, h1, h2, rfl⟩; exact ⟨e, ⟨h1, h2⟩, rfl⟩
theorem cond_eq {N : Nat} {E : List (Int × Int)} (hG : Gr N E) : condR N E = (((compF N E).length : Int), dd (sortF (condE N E E)), 0) := by
  have hN := hG.hN
  have hl : (compF N E).length ≤ 64 := by rw [comp_len]; have := reps_len N E N; omega
  unfold condR makeR
  rw [if_neg (by omega), if_neg]
  rw [Bool.not_eq_true, List.any_eq_false]
  intro p hp
  obtain ⟨e, he, _, rfl⟩ := condE_mem.1 hp
  obtain ⟨r1, r2, r3, r4⟩ := hG.rng e he
  have h1 := ofv_rng hG (x := e.1) ⟨r1, r2⟩
  have h2 := ofv_rng hG (x := e.2) ⟨r3, r4⟩
  simp [outF, beyondF]
  omega
theorem cond_mem {N : Nat} {E : List (Int × Int)} (hG : Gr N E) {p : Int × Int} : p ∈ (condR N E).2.1 ↔ ∃ e ∈ E, ofv N E e.1 ≠ ofv N E e.2 ∧ p = (ofv N E e.1, ofv N E e.2) := by
  rw [cond_eq hG]
  exact dd_mem'.trans condE_mem

theorem rea_mem {N : Nat} {E : List (Int × Int)} (hG : Gr N E) {L : List Int} (hL : ∀ x ∈ L, 0 ≤ x ∧ x < N) {y : Int} : y ∈ reaK N E L N ↔ ∃ x ∈ L, ∃ s, wlk E s x y = true := by
  unfold reaK
  rw [mem_cast]
  constructor
  · rintro ⟨v, h1, h2, rfl⟩
    exact (isR_iff hG hL).1 h2
  · rintro ⟨x, hx, s, hw⟩
    have := wlk_rng hG (hL x hx) hw
    obtain ⟨v, rfl⟩ : ∃ v : Nat, y = v := ⟨y.toNat, by omega⟩
    exact ⟨v, by omega, (isR_iff hG hL).2 ⟨x, hx, s, hw⟩, rfl⟩
theorem rea_rng {N : Nat} {E : List (Int × Int)} {L : List Int} {y : Int} (h : y ∈ reaK N E L N) : 0 ≤ y ∧ y < N := by
  obtain ⟨v, h1, _, rfl⟩ := mem_cast.1 h; omega
theorem rea_leaves {N : Nat} {E : List (Int × Int)} (hG : Gr N E) {L : List Int} (hL : ∀ x ∈ L, 0 ≤ x ∧ x < N) : E.any (leaves (reaK N E L N)) = false := by
  rw [List.any_eq_false]
  intro e he
  unfold leaves
  simp only [Bool.and_eq_true, decide_eq_true_eq, Bool.not_eq_true', decide_eq_false_iff_not]
  rintro ⟨h1, h2⟩
  obtain ⟨x, hx, s, hw⟩ := (rea_mem hG hL).1 h1
  exact h2 ((rea_mem hG hL).2 ⟨x, hx, s + 1, wlk_succ.2 ⟨e.1, he, hw⟩⟩)
theorem ready_cast {N : Nat} {E : List (Int × Int)} (h0 : checkF N E = 0) (p : Nat → Bool) : readyF N E (((List.range N).filter p).map fun v : Nat => (v : Int)) = 0 := by
  unfold readyF
  have ha : ascF (((List.range N).filter p).map fun v : Nat => (v : Int)) = true := asc_of (cast_asc N _)
  rw [if_neg (by rw [h0]; simp), if_neg, if_pos ha]
  rw [Bool.not_eq_true, List.any_eq_false]
  intro x hx
  obtain ⟨v, h1, _, rfl⟩ := mem_cast.1 hx
  simp [beyondF]; omega
theorem own_eq {N : Nat} {E : List (Int × Int)} (hG : Gr N E) (u : Int) : (!E.any (leaves (chsK u N))) = decide (reaK N E (chsK u N) N = chsK u N) := by
  rw [closed_eq hG]
  have hin : ∀ v ∈ List.range N, bitF u v = true → isR N E (chsK u N) v = true := fun v hv hb =>
    (isR_iff hG fun x hx => chs_rng hx).2 ⟨v, mem_cast.2 ⟨v, List.mem_range.1 hv, hb, rfl⟩, 0, by simp [wlk]⟩
  refine decide_eq_decide.2 ⟨fun h => ?_, fun h => by rw [h]⟩
  unfold reaK chsK at h ⊢
  rw [List.length_map, List.length_map] at h
  have k := (filter_len hin).1 h
  congr 1
  exact List.filter_congr fun v hv => Bool.eq_iff_iff.2 ⟨k v hv, hin v hv⟩
/-- the number of nodes that a node reaches -/
def rnum (N : Nat) (E : List (Int × Int)) (v : Int) : Nat := ((List.range N).filter fun b : Nat => rch N E v b).length
theorem min_ex {α : Type} (f : α → Nat) : ∀ {L : List α}, L ≠ [] → ∃ x ∈ L, ∀ y ∈ L, f x ≤ f y
  | [], h => absurd rfl h
  | x :: r, _ => by
    by_cases hr : r = []
    · subst hr; exact ⟨x, by simp, fun y hy => by simp at hy; subst hy; exact Nat.le_refl _⟩
    · obtain ⟨m, hm, h⟩ := min_ex f hr
      by_cases hx : f x ≤ f m
      · refine ⟨x, by simp, fun y hy => ?_⟩
        rcases List.mem_cons.1 hy with rfl | hy
        · exact Nat.le_refl _
        · exact Nat.le_trans hx (h y hy)
      · refine ⟨m, by simp [hm], fun y hy => ?_⟩
        rcases List.mem_cons.1 hy with rfl | hy
        · omega
        · exact h y hy
theorem rnum_back {N : Nat} {E : List (Int × Int)} (hG : Gr N E) {u v : Nat} (hu : u < N) (hv : v < N) (h : rch N E u v = true) (hn : rnum N E u ≤ rnum N E v) : rch N E v u = true := by
  have hin : ∀ b ∈ List.range N, rch N E v b = true → rch N E u b = true := fun b _ h1 => rch_trans hG hu hv h h1
  have h1 : ((List.range N).filter fun b : Nat => rch N E v b).length ≤ ((List.range N).filter fun b : Nat => rch N E u b).length := by
    have := List.Sublist.length_le (List.filter_sublist (l := (List.range N).filter fun b : Nat => rch N E u b) (p := fun b : Nat => rch N E v b))
    rw [List.filter_filter] at this
    have e : (List.range N).filter (fun b : Nat => rch N E v b && rch N E u b) = (List.range N).filter fun b : Nat => rch N E v b := List.filter_congr fun b hb => by
      cases hc : rch N E v b with
      | false => rfl
      | true => rw [hin b hb hc]; rfl
    rw [e] at this
    exact this
  have k := (filter_len hin).1 (Nat.le_antisymm hn h1)
  exact k u (List.mem_range.2 hu) (rch_refl hG hu)
/-- a set that no edge leaves holds a class that no edge leaves -/
theorem sink_in {N : Nat} {E : List (Int × Int)} (hG : Gr N E) {R : List Int} (hR : ∀ x ∈ R, 0 ≤ x ∧ x < N) (hc : E.any (leaves R) = false) (hne : R ≠ []) :
    ∃ s ∈ sinkF N E, s ≠ [] ∧ ∀ x ∈ s, x ∈ R := by
  obtain ⟨x, hx, hmin⟩ := min_ex (rnum N E) hne
  have hxr := hR x hx
  obtain ⟨v, rfl⟩ : ∃ v : Nat, x = v := ⟨x.toNat, by omega⟩
  have hv : v < N := by omega
  obtain ⟨k, h1, h2, h3⟩ := of_get hG hv
  have hkN := (reps_lt (List.getElem_mem h2)).1
  have hget : (compF N E).getD k [] = cls N E (reps N E N)[k] := by
    unfold compF; simp [List.getD, h2]
  refine ⟨cls N E (reps N E N)[k], ?_, ?_, ?_⟩
  · unfold sinkF sinkK
    refine List.mem_map.2 ⟨k, List.mem_filter.2 ⟨List.mem_range.2 (by rw [comp_len]; exact h2), ?_⟩, hget⟩
    unfold isSink
    rw [Bool.not_eq_true', List.any_eq_false]
    intro p hp
    obtain ⟨e, he, hne', rfl⟩ := (cond_mem hG).1 hp
    simp only [decide_eq_true_eq]
    intro hk
    obtain ⟨r1, r2, r3, r4⟩ := hG.rng e he
    obtain ⟨a, b⟩ := e
    obtain ⟨c, rfl⟩ : ∃ c : Nat, a = c := ⟨a.toNat, by omega⟩
    obtain ⟨d, rfl⟩ : ∃ c : Nat, b = c := ⟨b.toNat, by omega⟩
    dsimp only at *
    have hcN : c < N := by omega
    have hdN : d < N := by omega
    have hvc := (of_eq hG hv hcN).1 (by omega)
    unfold eqv at hvc
    simp only [Bool.and_eq_true] at hvc
    have hcd : rch N E c d = true := (rch_iff hG (by omega)).2 ⟨1, wlk_succ.2 ⟨c, he, by simp [wlk]⟩⟩
    have hvd := rch_trans hG hv hcN hvc.1 hcd
    obtain ⟨s, hs⟩ := (rch_iff hG (by omega)).1 hvd
    have hdR := wlk_closed hc hx hs
    have hdv := rnum_back hG hv hdN hvd (hmin d hdR)
    exact hne' ((of_eq hG hcN hdN).2 (by unfold eqv; rw [hcd, rch_trans hG hdN hv hdv hvc.1]; rfl))
  · have : ((reps N E N)[k] : Int) ∈ cls N E (reps N E N)[k] := mem_cast.2 ⟨_, hkN, eqv_refl hG hkN, rfl⟩
    intro e; rw [e] at this; simp at this
  · intro y hy
    obtain ⟨w, hw, hm, rfl⟩ := mem_cast.1 hy
    have : eqv N E v w = true := eqv_trans hG hv hkN hw (by rw [eqv_symm]; exact h3) hm
    unfold eqv at this
    simp only [Bool.and_eq_true] at this
    obtain ⟨s, hs⟩ := (rch_iff hG (by omega)).1 this.1
    exact wlk_closed hc hx hs
theorem sink_any {N : Nat} {E : List (Int × Int)} (hG : Gr N E) {L : List Int} (hL : ∀ x ∈ L, 0 ≤ x ∧ x < N) :
    ((sinkF N E).any fun s => ((decide ((0 : Int) < (s.length : Int))) && !(s.any fun v => !decide (v ∈ reaK N E L N)))) = decide ((0 : Int) < ((reaK N E L N).length : Int)) := by
  rw [Bool.eq_iff_iff, List.any_eq_true, decide_eq_true_eq]
  constructor
  · rintro ⟨s, _, h⟩
    simp only [Bool.and_eq_true, decide_eq_true_eq, Bool.not_eq_true', List.any_eq_false] at h
    obtain ⟨h1, h2⟩ := h
    match s, h1, h2 with
    | x :: r, _, h2 =>
      have := h2 x (by simp)
      simp only [decide_eq_false_iff_not, Classical.not_not] at this
      have := List.length_pos_of_mem this
      omega
  · intro h
    obtain ⟨s, h1, h2, h3⟩ := sink_in hG (fun x hx => rea_rng hx) (rea_leaves hG hL) (by intro e; rw [e] at h; simp at h)
    refine ⟨s, h1, ?_⟩
    simp only [Bool.and_eq_true, decide_eq_true_eq, Bool.not_eq_true', List.any_eq_false]
    refine ⟨by have := List.length_pos_iff.2 h2; omega, fun x hx => ?_⟩
    have := h3 x hx
    simp [this]
end Go.Proofs.YtbcjdjlihhlkaaaDoor
