/- Contracts of the graph's Reverse, Condense, Path, Reach, Closed, Closure. Their premises are their own. -/
import Derived.Test.YtdjhgcpmipglfaaXD
import Derived.Test.YtdjhgcpmipglfaaXE
namespace Go.Proofs.Ytdjhgcpmipglfaa
open Go Go.RowKit Go.Dw
def revR (N : Int) (E : List (Int × Int)) : Int × List (Int × Int) × Int := if checkF N E = 0 then (N, revF E, 0) else (0, [], checkF N E)
theorem Reverse_spec {a : Option Addr} {n c : Nat} {E : List (Int × Int)} (N : Int) (w : World) (hL : Sl (encF fE) 2 (Hp.whole w) a n c E) :
    CallsE Try.prog 53 #[gv N a n c] w (RetG w (revR N E)) := by
  refine enter (X := cx 13) (cxg _) (args := [.agg #[.int .i64 N, .slice a n c]]) [.cell 2 26, .tmp 3] Try.func53 rfl rfl rfl rfl rfl ?_
  intro b1 b2
  refine callV _ (fun w' hm => check_spec N w' (hL.mono (encF_mono _) (hm 0 _ rfl))) ?_
  refine bsplitd (fun h => ?_) (fun h => ?_)
  · refine ⟨[.hp Hp.emp], ⟨Os.nil, ?_, rfl, ?_⟩, fun w' h => (h.pick [0] rfl rfl).emp⟩
    · unfold revR; rw [if_neg h]; rfl
    · unfold revR; rw [if_neg h]; exact OwnO.nil _ _ _
  have h0 : checkF N E = 0 := Decidable.not_not.1 h
  obtain ⟨M, rfl, hG, _⟩ := checkF_ok h0
  have hEl := hG.len
  refine call (fun w' hm => reversed_spec M w' (hL.mono (encF_mono _) (hm 0 _ rfl)) (by omega)) ?_
  rintro _ _ ⟨o, rfl, rfl, ho⟩
  refine ⟨[.hp o.h], ⟨o, ?_, rfl, ?_⟩, fun w' h => h.pick [0, 3] rfl rfl⟩
  · unfold revR; rw [if_pos h0]; rfl
  · unfold revR; rw [if_pos h0]; exact ho
/-- a condensation that is handed back -/
def conR (N : Int) (E : List (Int × Int)) : Int × List (Int × Int) × List Int := if checkF N E = 0 then ((condR N.toNat E).1, (condR N.toNat E).2.1, ofF N.toNat E) else (0, [], [])
theorem Condense_spec {a : Option Addr} {n c : Nat} {E : List (Int × Int)} (N : Int) (w : World) (hL : Sl (encF fE) 2 (Hp.whole w) a n c E) :
    CallsE Try.prog 46 #[gv N a n c] w (Ret w fun v cs => ∃ o o2 : Dw.Os, v = .tuple #[gv (conR N E).1 o.a o.n o.c, o2.v, .int .i64 (checkF N E)] ∧ cs = [.hp o.h, .hp o2.h] ∧ OwnO fE 32 2 o (conR N E).2.1 ∧ OwnO fI 3 1 o2 (conR N E).2.2) := by
  refine enter (X := cx 21) (cxg _) (args := [.agg #[.int .i64 N, .slice a n c]]) [.cell 2 26, .tmp 3, .tmp 4] Try.func46 rfl rfl rfl rfl rfl ?_
  intro b1 b2
  refine callV _ (fun w' hm => check_spec N w' (hL.mono (encF_mono _) (hm 0 _ rfl))) ?_
  refine bsplitd (fun h => ?_) (fun h => ?_)
  · refine ⟨[.hp Hp.emp, .hp Hp.emp], ⟨Os.nil, Os.nil, ?_, rfl, ?_, ?_⟩, fun w' h => (h.pick [0] rfl rfl).emp.emp⟩
    · unfold conR; rw [if_neg h]; rfl
    · unfold conR; rw [if_neg h]; exact OwnO.nil _ _ _
    · unfold conR; rw [if_neg h]; exact OwnO.nil _ _ _
  have h0 : checkF N E = 0 := Decidable.not_not.1 h
  obtain ⟨M, rfl, hG, _⟩ := checkF_ok h0
  have e : conR M E = ((condR M E).1, (condR M E).2.1, ofF M E) := by unfold conR; rw [if_pos h0]; rfl
  refine call (fun w' hm => condense_spec M w' (hL.mono (encF_mono _) (hm 0 _ rfl)) hG) ?_
  rintro _ _ ⟨o, o2, rfl, rfl, ho, ho2⟩
  intro b3
  exact ⟨[.hp o.h, .hp o2.h], ⟨o, o2, by rw [e, h0]; rfl, rfl, by rw [e]; exact ho, by rw [e]; exact ho2⟩, fun w' h => h.pick [0, 3, 4] rfl rfl⟩
theorem single_two {N : Int} {E : List (Int × Int)} {x y : Int} (h : singleF N E [x, y] = 0) : ∃ M : Nat, N = M ∧ Gr M E ∧ (0 ≤ x ∧ x < M) ∧ (0 ≤ y ∧ y < M) := by
  simp only [singleF] at h
  split at h
  · rename_i h1; exact absurd h h1
  rename_i h1
  split at h
  · rename_i h2; exact absurd h h2
  rename_i h2
  obtain ⟨M, rfl, hG, hx⟩ := ready_one (Decidable.not_not.1 h1)
  obtain ⟨M', e, _, hy⟩ := ready_one (Decidable.not_not.1 h2)
  exact ⟨M, rfl, hG, hx, by omega, by omega⟩
def patR (N : Int) (E : List (Int × Int)) (x y : Int) : List Int := if singleF N E [x, y] = 0 then pathF N.toNat E x y else []
def patC (N : Int) (E : List (Int × Int)) (x y : Int) : Int := if singleF N E [x, y] = 0 then (match dst N.toNat E x y with | none => 10 | some _ => 0) else singleF N E [x, y]
theorem Path_spec {a : Option Addr} {n c : Nat} {E : List (Int × Int)} (N x y : Int) (w : World) (hL : Sl (encF fE) 2 (Hp.whole w) a n c E) :
    CallsE Try.prog 23 #[gv N a n c, .int .i64 x, .int .i64 y] w (RetI w (patR N E x y) (patC N E x y)) := by
  refine enter (X := cx 25) (cxg _) (args := [.agg #[.int .i64 N, .slice a n c], .int .i64 x, .int .i64 y]) [.tmp 6, .tmp 7] Try.func23 rfl rfl rfl rfl rfl ?_
  intro b1 b2
  refine callV _ (fun w' hm => single_spec N w' (hL.mono (encF_mono _) (hm 0 _ rfl)) (Sl.box (f := fI) (fun _ => rfl) (by decide) (hm 2 _ rfl) [x, y] rfl rfl (by simp)) (by simp)) ?_
  refine bsplitd (fun h => ?_) (fun h => ?_)
  · refine ⟨[.hp Hp.emp], ⟨Os.nil, ?_, rfl, ?_⟩, fun w' h => (h.pick [0] rfl rfl).emp⟩
    · unfold patC; rw [if_neg h]; rfl
    · unfold patR; rw [if_neg h]; exact OwnO.nil _ _ _
  have h0 : singleF N E [x, y] = 0 := Decidable.not_not.1 h
  obtain ⟨M, rfl, hG, hx, hy⟩ := single_two h0
  have er : patR M E x y = pathF M E x y := by unfold patR; rw [if_pos h0]; rfl
  have ec : patC M E x y = (match dst M E x y with | none => 10 | some _ => 0) := by unfold patC; rw [if_pos h0]; rfl
  refine call (fun w' hm => path_spec M x y w' (hL.mono (encF_mono _) (hm 0 _ rfl)) hG hx hy) ?_
  rintro _ _ ⟨o, rfl, rfl, ho, hn⟩
  refine qNilEq rfl ?_
  refine bsplit (fun hz => ?_) (fun hz => ?_)
  · have hd := hn.1 (Option.isNone_iff_eq_none.1 hz)
    refine ⟨[.hp Hp.emp], ⟨Os.nil, ?_, rfl, ?_⟩, fun w' h => (h.pick [0] rfl rfl).emp⟩
    · rw [ec, hd]; rfl
    · rw [er]; unfold pathF; rw [hd]; exact OwnO.nil _ _ _
  · obtain ⟨s, hd⟩ : ∃ s, dst M E x y = some s := by
      cases h : dst M E x y with
      | none => rw [Option.isNone_eq_false_iff, hn.2 h] at hz; cases hz
      | some m => exact ⟨m, rfl⟩
    exact ⟨[.hp o.h], ⟨o, by rw [ec, hd], rfl, by rw [er]; exact ho⟩, fun w' h => h.pick [0, 3] rfl rfl⟩
theorem ready_ok {N : Int} {E : List (Int × Int)} {L : List Int} (h : readyF N E L = 0) : ∃ M : Nat, N = M ∧ Gr M E ∧ checkF M E = 0 ∧ (∀ x ∈ L, 0 ≤ x ∧ x < M) ∧ ascF L = true := by
  unfold readyF at h
  split at h
  · rename_i h1; exact absurd h h1
  rename_i h1
  have h0 := Decidable.not_not.1 h1
  obtain ⟨M, rfl, hG, _⟩ := checkF_ok h0
  split at h
  · cases h
  rename_i h2
  split at h
  · rename_i h3
    refine ⟨M, rfl, hG, h0, fun x hx => ?_, h3⟩
    have := List.any_eq_false.1 (Bool.not_eq_true _ ▸ h2) x hx
    simp only [beyondF, Bool.or_eq_true, decide_eq_true_eq, not_or] at this
    omega
  · cases h
def reaR (N : Int) (E : List (Int × Int)) (L : List Int) : List Int := if readyF N E L = 0 then lst (rchL N.toNat E L) else []
theorem Reach_spec {a a1 : Option Addr} {n c n1 c1 : Nat} {E : List (Int × Int)} {L : List Int} (N : Int) (w : World) (hL : Sl (encF fE) 2 (Hp.whole w) a n c E) (hM : Sl (encF fI) 1 (Hp.whole w) a1 n1 c1 L) (hl : L.length < 1000000000) :
    CallsE Try.prog 37 #[gv N a n c, .slice a1 n1 c1] w (RetI w (reaR N E L) (readyF N E L)) := by
  refine enter (X := cx 17) (cxg _) (args := [.agg #[.int .i64 N, .slice a n c], .slice a1 n1 c1]) [.tmp 4, .tmp 5] Try.func37 rfl rfl rfl rfl rfl ?_
  intro b1
  refine callV _ (fun w' hm => ready_spec N w' (hL.mono (encF_mono _) (hm 0 _ rfl)) (hM.mono (encF_mono _) (hm 0 _ rfl)) hl) ?_
  refine bsplitd (fun h => ?_) (fun h => ?_)
  · refine ⟨[.hp Hp.emp], ⟨Os.nil, rfl, rfl, ?_⟩, fun w' h => (h.pick [0] rfl rfl).emp⟩
    unfold reaR; rw [if_neg h]; exact OwnO.nil _ _ _
  have h0 : readyF N E L = 0 := Decidable.not_not.1 h
  obtain ⟨M, rfl, hG, _, hr, _⟩ := ready_ok h0
  have hN := hG.hN
  have er : reaR M E L = lst (rchL M E L) := by unfold reaR; rw [if_pos h0]; rfl
  refine call (fun w' hm => reach_spec M w' (hL.mono (encF_mono _) (hm 0 _ rfl)) (hM.mono (encF_mono _) (hm 0 _ rfl)) hG hr hl) ?_
  rintro _ _ ⟨o, rfl, rfl, ho⟩
  have hs := OwnO.sl (f := fB) (fun _ => rfl) (by decide) ho
  refine call (fun w' hm => listed_spec w' (hs.mono (encF_mono _) (hm 2 _ rfl)) (by simp [rchL]; omega)) ?_
  rintro _ _ ⟨o2, rfl, rfl, ho2⟩
  exact ⟨[.hp o2.h], ⟨o2, by rw [h0], rfl, by rw [er]; exact ho2⟩, fun w' h => h.pick [0, 3] rfl rfl⟩
def leaves (L : List Int) (e : Int × Int) : Bool := decide (e.1 ∈ L) && !decide (e.2 ∈ L)
def cloR (N : Int) (E : List (Int × Int)) (L : List Int) : Bool := if readyF N E L = 0 then !E.any (leaves L) else false
theorem Closed_spec {a a1 : Option Addr} {n c n1 c1 : Nat} {E : List (Int × Int)} {L : List Int} (N : Int) (w : World) (hL : Sl (encF fE) 2 (Hp.whole w) a n c E) (hM : Sl (encF fI) 1 (Hp.whole w) a1 n1 c1 L) (hl : L.length < 1000000000) :
    CallsE Try.prog 38 #[gv N a n c, .slice a1 n1 c1] w (RetV w (.tuple #[.bool (cloR N E L), .int .i64 (readyF N E L)])) := by
  have hlen := hL.len
  have hml := hM.len
  refine enter (X := cx 34) (cxg _) (args := [.agg #[.int .i64 N, .slice a n c], .slice a1 n1 c1]) [.tmp 4, .tmp 5] Try.func38 rfl rfl rfl rfl rfl ?_
  intro b1
  refine callV _ (fun w' hm => ready_spec N w' (hL.mono (encF_mono _) (hm 0 _ rfl)) (hM.mono (encF_mono _) (hm 0 _ rfl)) hl) ?_
  refine bsplitd (fun h => ?_) (fun h => ?_)
  · exact ⟨[], ⟨by unfold cloR; rw [if_neg h], rfl⟩, fun w' h => h.pick [0] rfl rfl⟩
  have h0 : readyF N E L = 0 := Decidable.not_not.1 h
  have ec : cloR N E L = !E.any (leaves L) := by unfold cloR; rw [if_pos h0]
  obtain ⟨M, rfl, hG, _, _, _⟩ := ready_ok h0
  have hEl := hG.len
  refine NeedL.mk Nat (fun k => [(1, .v (.slice a1 n1 c1)), (16, .v (.slice a n c)), (17, .v (.int .i64 n)), (18, .v (.int .i64 k))]) (fun _ => [.hp (Hp.whole w)])
    (fun k => k ≤ n ∧ (E.take k).any (leaves L) = false) (fun k => n - k) 0 ⟨Nat.zero_le _, rfl⟩ (Ent.mk (fun _ _ h => h.pick [0] rfl rfl) rfl rfl) ?_
  rintro k ⟨hk, ho⟩
  refine bsplitd (fun hlt => ?_) (fun hge => ?_)
  · have hlt' : k < E.length := by omega
    refine idx (cxg _) (e := 32) rfl hL k rfl hlt' (fun b o cs hcs hR hcell => ?_)
    subst hR
    refine ldn (cxg _) (i := 0) rfl hcell rfl ?_
    intro b8
    have hp1 := fun (w' : World) (hm : (Hp.whole w).In w') => containsInts_spec (E[k]'hlt').1 w' (hM.mono (encF_mono _) hm) (by omega)
    have hp2 := fun (w' : World) (hm : (Hp.whole w).In w') => containsInts_spec (E[k]'hlt').2 w' (hM.mono (encF_mono _) hm) (by omega)
    refine callV _ (fun w' hm => hp1 w' (hm 0 _ rfl)) ?_
    refine bsplitd (fun h1 => ?_) (fun h1 => ?_)
    · refine callV _ (fun w' hm => hp2 w' (hm 0 _ rfl)) ?_
      refine bsplit (fun h2 => ?_) (fun h2 => ?_)
      · exact ⟨[], ⟨by rw [ec, any_hit hlt' (p := leaves L) (by unfold leaves; rw [decide_eq_true h1, h2]; rfl), h0]; rfl, rfl⟩, fun w' h => h.pick [0] rfl rfl⟩
      · refine nw (by omega) (by omega) ?_
        exact ⟨k + 1, ⟨by omega, any_step hlt' ho (by unfold leaves; rw [h2, Bool.and_false])⟩, by omega, Ent.mk (fun _ _ h => h.pick [0] rfl rfl) rfl rfl⟩
    · refine nw (by omega) (by omega) ?_
      exact ⟨k + 1, ⟨by omega, any_step hlt' ho (by unfold leaves; rw [decide_eq_false h1]; rfl)⟩, by omega, Ent.mk (fun _ _ h => h.pick [0] rfl rfl) rfl rfl⟩
  · rw [List.take_of_length_le (by omega)] at ho
    exact ⟨[], ⟨by rw [ec, ho, h0]; rfl, rfl⟩, fun w' h => h⟩
def closR (N : Int) (E : List (Int × Int)) : List (List Int) := if checkF N E = 0 then (cloF N.toNat E).map lst else []
theorem lst_len (S : List Bool) : (lst S).length ≤ S.length := by
  unfold lst; rw [List.length_map]; exact Nat.le_trans (List.length_filter_le _ _) (by simp)
theorem Closure_spec {a : Option Addr} {n c : Nat} {E : List (Int × Int)} (N : Int) (w : World) (hL : Sl (encF fE) 2 (Hp.whole w) a n c E) :
    CallsE Try.prog 62 #[gv N a n c] w (RetR w (closR N E) (checkF N E)) := by
  refine enter (X := cx 27) (cxg _) (args := [.agg #[.int .i64 N, .slice a n c]]) [.tmp 2, .tmp 3] Try.func62 rfl rfl rfl rfl rfl ?_
  intro b1
  refine callV _ (fun w' hm => check_spec N w' (hL.mono (encF_mono _) (hm 0 _ rfl))) ?_
  refine bsplitd (fun h => ?_) (fun h => ?_)
  · refine ⟨[.hp Hp.emp], ⟨none, 0, 0, Hp.emp, rfl, rfl, ?_⟩, fun w' h => (h.pick [0] rfl rfl).emp⟩
    unfold closR; rw [if_neg h]; exact Sl.nil _ _ _ _ _
  have h0 : checkF N E = 0 := Decidable.not_not.1 h
  obtain ⟨M, rfl, hG, _⟩ := checkF_ok h0
  have hN := hG.hN
  have er : closR M E = (cloF M E).map lst := by unfold closR; rw [if_pos h0]; rfl
  have hcl : (cloF M E).length = M := by simp [cloF]
  refine call (fun w' hm => closure_spec M w' (hL.mono (encF_mono _) (hm 0 _ rfl)) hG) ?_
  rintro _ _ ⟨a2, c2, hx, rfl, rfl, hX⟩
  refine NeedL.mkS (Nat × Dw.Os × List Dw.Os × Hp) (fun g => [(5, .v g.2.1.v), (14, .v (.slice a2 M c2)), (15, .v (.int .i64 M)), (16, .v (.int .i64 g.1))]) (fun g => [.hp (Hp.whole w), .hp hx, .hp g.2.1.h, .hp g.2.2.2])
    (fun g => g.1 ≤ M ∧ OwnO Os.row 42 1 g.2.1 g.2.2.1 ∧ Rws fI 3 1 g.2.2.2 g.2.2.1 (((cloF M E).take g.1).map lst)) (fun g => M - g.1) (0, Os.nil, [], Hp.emp)
    ⟨Nat.zero_le _, OwnO.nil _ _ _, Rws.nil _ _ _ _⟩ (Ent.mk (fun _ _ h => (h.pick [0, 2] rfl rfl).emp.emp) rfl rfl) ?_
  rintro ⟨k, oR, os, H⟩ ⟨hk, hoR, hr⟩ hsat
  dsimp only at *
  have hrl : os.length = k := by rw [hr.len, List.length_map, List.length_take]; omega
  refine bsplitd (fun hlt => ?_) (fun hge => ?_)
  · have hkc : k < (cloF M E).length := by omega
    refine idx (cxg _) (e := 101) rfl hX k rfl hkc (fun b1 o1 cs hcs hR hcell => ?_)
    obtain ⟨a3, n3, c3, rfl, hs3⟩ := hR
    refine ld1 (cxg _) (i := 1) rfl (hcell 0 _ rfl) rfl ?_
    have h3l : ((cloF M E)[k]).length = M := by simp [cloF, rchL]
    have hp := fun (w' : World) (hm : hx.In w') => listed_spec (S := (cloF M E)[k]'hkc) w' (hs3.mono (encF_mono _) hm) (by omega)
    refine callS (fun w' hm => hp w' (hm 1 _ rfl)) ?_
    rintro _ _ ⟨o4, rfl, rfl, ho4⟩ hsat2
    intro b5
    refine appO (f := Os.row) (cxg _) (e := 42) rfl (i := 2) rfl hoR (j := 5) o4 rfl rfl rfl rfl (by omega) (fun oR' hoR' => ?_)
    refine nw (by omega) (by omega) ?_
    refine ⟨(k + 1, oR', os ++ [o4], H.join o4.h), ⟨by dsimp only; omega, hoR', ?_⟩, by dsimp only; omega, Ent.mk (fun _ _ h => Ok.pick [0, 2, 3, 1] rfl rfl (Ok.join (c := .hp (Hp.whole w)) (Ok.pick [0, 3, 4, 1, 2] rfl rfl h))) rfl rfl⟩
    dsimp only
    rw [List.take_succ_eq_append_getElem hkc, List.map_append]
    exact hr.push ho4 (hsat2.dj 3 4 rfl rfl (by decide))
  · rw [List.take_of_length_le (by omega)] at hr
    have hh := Rws.sl (f := fI) (fun _ => rfl) (by decide) hr hoR (hsat.dj 2 3 rfl rfl (by decide))
    exact ⟨[.hp (oR.h.join H)], ⟨oR.a, oR.n, oR.c, _, by rw [h0]; rfl, rfl, by rw [er]; exact hh⟩, fun w' h => Ok.join (c := .hp (Hp.whole w)) (d := .hp oR.h) (e := .hp H) (s := []) (h.pick [0, 2, 3] rfl rfl)⟩
end Go.Proofs.Ytdjhgcpmipglfaa
