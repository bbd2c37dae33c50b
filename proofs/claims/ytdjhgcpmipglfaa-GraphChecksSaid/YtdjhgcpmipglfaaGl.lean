/- Contract of the graph's Cycle. Its premises are its own. -/
import Derived.Test.YtdjhgcpmipglfaaGk
import Derived.Test.YtdjhgcpmipglfaaDwj
namespace Go.Proofs.Ytdjhgcpmipglfaa
open Go Go.RowKit Go.Dw
/-- the cycle through an edge -/
def cycL (N : Nat) (E : List (Int × Int)) (e : Int × Int) : List Int := e.1 :: (pathF N E e.2 e.1).take ((pathF N E e.2 e.1).length - 1)
def cycB (l m : List Int) : Bool := decide (l.length < m.length) || (decide (l.length = m.length) && decide (cmpL l m < 0))
def cycStep (N : Nat) (E : List (Int × Int)) (b : Option (List Int)) (e : Int × Int) : Option (List Int) :=
  match dst N E e.2 e.1 with
  | none => b
  | some _ => match b with
    | none => some (cycL N E e)
    | some m => if cycB (cycL N E e) m then some (cycL N E e) else some m
def cycK (N : Nat) (E M : List (Int × Int)) : Option (List Int) := M.foldl (cycStep N E) none
theorem cycK_succ {N : Nat} {E : List (Int × Int)} {k : Nat} (hk : k < E.length) : cycK N E (E.take (k + 1)) = cycStep N E (cycK N E (E.take k)) E[k] := by
  unfold cycK; rw [List.take_succ_eq_append_getElem hk, List.foldl_append]; rfl
theorem cycL_len {N : Nat} {E : List (Int × Int)} {e : Int × Int} (hN : N ≤ 64) : (cycL N E e).length ≤ 65 := by
  have := pathF_len (E := E) (a := e.2) (b := e.1) hN
  simp only [cycL, List.length_cons, List.length_take]; omega
theorem cycK_len {N : Nat} {E : List (Int × Int)} (hN : N ≤ 64) : ∀ (M : List (Int × Int)) (b : Option (List Int)), (∀ m, b = some m → m.length ≤ 65) → ∀ m, M.foldl (cycStep N E) b = some m → m.length ≤ 65
  | [], _, h, m, e => h m e
  | x :: r, b, h, m, e => by
    refine cycK_len hN r (cycStep N E b x) (fun m' e' => ?_) m e
    unfold cycStep at e'
    split at e'
    · exact h m' e'
    · split at e'
      · cases e'; exact cycL_len hN
      · split at e'
        · cases e'; exact cycL_len hN
        · cases e'; exact h _ rfl
def cycR (N : Int) (E : List (Int × Int)) : List Int := if checkF N E = 0 then (cycK N.toNat E E).getD [] else []
def cycC (N : Int) (E : List (Int × Int)) : Int := if checkF N E = 0 then (match cycK N.toNat E E with | none => 10 | some _ => 0) else checkF N E
theorem Cycle_spec {a : Option Addr} {n c : Nat} {E : List (Int × Int)} (N : Int) (w : World) (hL : Sl (encF fE) 2 (Hp.whole w) a n c E) :
    CallsE Try.prog 33 #[gv N a n c] w (RetI w (cycR N E) (cycC N E)) := by
  have hlen := hL.len
  refine enter (X := cx 66) (cxg _) (args := [.agg #[.int .i64 N, .slice a n c]]) [.tmp 2, .tmp 3] Try.func33 rfl rfl rfl rfl rfl ?_
  intro b1
  refine callV _ (fun w' hm => check_spec N w' (hL.mono (encF_mono _) (hm 0 _ rfl))) ?_
  refine bsplitd (fun h => ?_) (fun h => ?_)
  · refine ⟨[.hp Hp.emp], ⟨Os.nil, ?_, rfl, ?_⟩, fun w' h => (h.pick [0] rfl rfl).emp⟩
    · unfold cycC; rw [if_neg h]; rfl
    · unfold cycR; rw [if_neg h]; exact OwnO.nil _ _ _
  have h0 : checkF N E = 0 := Decidable.not_not.1 h
  obtain ⟨M, rfl, hG, _⟩ := checkF_ok h0
  have hN := hG.hN
  have hEl := hG.len
  have hcr : cycR M E = (cycK M E E).getD [] := by unfold cycR; rw [if_pos h0]; rfl
  have hcc : cycC M E = (match cycK M E E with | none => 10 | some _ => 0) := by unfold cycC; rw [if_pos h0]; rfl
  refine NeedL.mk (Nat × Dw.Os) (fun g => [(1, .bx 1 0), (5, .v g.2.v), (16, .v (.slice a n c)), (17, .v (.int .i64 n)), (18, .v (.int .i64 g.1))])
    (fun g => [.hp (Hp.whole w), .box b1 [.int .i64 M, .slice a n c] 26, .hp g.2.h])
    (fun g => g.1 ≤ n ∧ OwnO fI 3 1 g.2 ((cycK M E (E.take g.1)).getD []) ∧ (g.2.a = none ↔ cycK M E (E.take g.1) = none)) (fun g => n - g.1) (0, Os.nil) ⟨Nat.zero_le _, OwnO.nil _ _ _, ⟨fun _ => rfl, fun _ => rfl⟩⟩ (Ent.mk (fun _ _ h => h.emp) rfl rfl) ?_
  rintro ⟨k, o5⟩ ⟨hk, ho5, hn5⟩
  dsimp only at *
  refine bsplitd (fun hlt => ?_) (fun hge => ?_)
  · have hlt' : k < E.length := by omega
    obtain ⟨r1, r2, r3, r4⟩ := hG.rng _ (List.getElem_mem hlt')
    have st := cycK_succ (N := M) hlt'
    refine idx (cxg _) (e := 32) rfl hL k rfl hlt' (fun b o cs hcs hR hcell => ?_)
    subst hR
    refine ldn (cxg _) (i := 0) rfl hcell rfl ?_
    intro b7
    have hpp := fun w' (hm : (Hp.whole w).In w') => path_spec M (E[k]'hlt').2 (E[k]'hlt').1 w' (hL.mono (encF_mono _) hm) hG ⟨r3, r4⟩ ⟨r1, r2⟩
    refine call (fun w' hm => hpp w' (hm 0 _ rfl)) ?_
    rintro _ _ ⟨o8, rfl, rfl, ho8, hn8⟩
    refine qNilEq rfl ?_
    refine bsplit (fun hnil => ?_) (fun hnn => ?_)
    · have hd : dst M E E[k].2 E[k].1 = none := hn8.1 (Option.isNone_iff_eq_none.1 hnil)
      have st' : cycK M E (E.take (k + 1)) = cycK M E (E.take k) := by rw [st]; unfold cycStep; rw [hd]
      refine nw (by omega) (by omega) ?_
      refine ⟨(k + 1, o5), ⟨by dsimp only; omega, ?_, ?_⟩, by dsimp only; omega, Ent.mk (fun _ _ h => h.pick [0, 1, 2] rfl rfl) rfl rfl⟩
      · dsimp only; rw [st']; exact ho5
      · dsimp only; rw [st']; exact hn5
    obtain ⟨s0, hd⟩ : ∃ s, dst M E E[k].2 E[k].1 = some s := by
      cases h : dst M E E[k].2 E[k].1 with
      | none => rw [Option.isNone_eq_false_iff, hn8.2 h] at hnn; cases hnn
      | some s => exact ⟨s, rfl⟩
    have hpl : (pathF M E E[k].2 E[k].1).length = s0 + 1 := by unfold pathF; rw [hd]; exact pth_len _ _ _ _ _
    have hs0 := (dst_some hd).1
    have h8 := ho8.len
    have hcl := cycL_len (E := E) (e := E[k]) hN
    have hc8 := (OwnO.sl (f := fI) (fun _ => rfl) (by decide) ho8).cap
    have hbk := OwnO.take (f := fI) (fun _ => rfl) ho8 (o8.n - 1) (by omega)
    have hbs := OwnO.sl (f := fI) (fun _ => rfl) (by decide) hbk
    refine NeedD.cut Dw.Os (fun o9 => [(1, .bx 1 0), (5, .v o5.v), (9, .v o9.v), (16, .v (.slice a n c)), (17, .v (.int .i64 n)), (18, .v (.int .i64 k))])
      (fun o9 => [.hp (Hp.whole w), .box b1 [.int .i64 M, .slice a n c] 26, .hp o5.h, .hp o9.h]) (fun o9 => OwnO fI 3 1 o9 (cycL M E E[k]) ∧ o9.a ≠ none) (NeedD.by_order (cxg _) (.take 0 <| .take 1 <| .take 3 <| .take 4 <| .take 5 <| .take 6 <| .take 7 <| .run 2 <| .run 8 <| .run 9 <| .done) (by kernel_rfl) ?_) ?_
    · refine nw (by omega) (by omega) ?_
      refine slT (cxg _) (e := 3) rfl (o8.n - 1) (by omega) (by omega) ?_
      intro b32
      refine ⟨(by repeat first | exact trivial | refine ⟨.inl rfl, ?_⟩ | refine ⟨.inr rfl, ?_⟩), ?_⟩
      refine appB (cxg _) (e := 3) (f := fI) rfl (fun _ => rfl) (i := 5) rfl (L := [E[k].1]) rfl rfl (k := 4) rfl hbs rfl (by simp; omega) (fun hnl => ?_) (fun hnl o9 ho9 hn9 => ?_)
      · refine ⟨(by repeat first | exact trivial | refine ⟨.inl rfl, ?_⟩ | refine ⟨.inr rfl, ?_⟩), ?_⟩
        refine ⟨⟨some ⟨b32, 0, none⟩, 1, 1, (Ch.box b32 [.int .i64 E[k].1] 3).h⟩, ⟨?_, by simp⟩, Ent.mk (fun _ _ h => Ok.same (s := [.hp (Hp.whole w), .box b1 [.int .i64 M, .slice a n c] 26, .hp o5.h, .box b32 [.int .i64 E[k].1] 3]) (i := 3) (c := .box b32 [.int .i64 E[k].1] 3) (d := .hp (Ch.box b32 [.int .i64 E[k].1] 3).h) rfl rfl (h.pick [0, 1, 2, 5] rfl rfl)) rfl rfl⟩
        unfold cycL
        rw [← h8, hnl]
        exact OwnO.box (fun _ => rfl) [E[k].1] rfl rfl (by simp)
      · refine ⟨(by repeat first | exact trivial | refine ⟨.inl rfl, ?_⟩ | refine ⟨.inr rfl, ?_⟩), ?_⟩
        exact ⟨o9, ⟨by rw [h8] at ho9; exact ho9, hn9⟩, Ent.mk (fun _ _ h => h.pick [0, 1, 2, 6] rfl rfl) rfl rfl⟩
    · rintro o9 ⟨ho9, hn9⟩ -
      have h9 := ho9.len
      have h5 := ho5.len
      have h9s := OwnO.sl (f := fI) (fun _ => rfl) (by decide) ho9
      have h5s := OwnO.sl (f := fI) (fun _ => rfl) (by decide) ho5
      have yes : cycK M E (E.take (k + 1)) = some (cycL M E E[k]) → (k + 1 ≤ n ∧ OwnO fI 3 1 o9 ((cycK M E (E.take (k + 1))).getD []) ∧ (o9.a = none ↔ cycK M E (E.take (k + 1)) = none)) := fun e => by
        rw [e]; exact ⟨by omega, ho9, ⟨fun h => absurd h hn9, fun h => by cases h⟩⟩
      have no : cycK M E (E.take (k + 1)) = cycK M E (E.take k) → (k + 1 ≤ n ∧ OwnO fI 3 1 o5 ((cycK M E (E.take (k + 1))).getD []) ∧ (o5.a = none ↔ cycK M E (E.take (k + 1)) = none)) := fun e => by
        rw [e]; exact ⟨by omega, ho5, hn5⟩
      rw [show cycStep M E (cycK M E (E.take k)) E[k] = (match cycK M E (E.take k) with | none => some (cycL M E E[k]) | some m => if cycB (cycL M E E[k]) m then some (cycL M E E[k]) else some m) by unfold cycStep; rw [hd]] at st
      refine hideQ (fun q' hq' => ?_)
      refine qNilEq rfl ?_
      refine bsplit (fun hz => ?_) (fun hz => ?_)
      · have hK : cycK M E (E.take k) = none := hn5.1 (Option.isNone_iff_eq_none.1 hz)
        rw [hK] at st
        refine hq' _ _ ?_
        refine nw (by omega) (by omega) ?_
        exact ⟨(k + 1, o9), yes st, by dsimp only; omega, Ent.mk (fun _ _ h => h.pick [0, 1, 3] rfl rfl) rfl rfl⟩
      obtain ⟨m, hK⟩ : ∃ m, cycK M E (E.take k) = some m := by
        cases h : cycK M E (E.take k) with
        | none => rw [Option.isNone_eq_false_iff, hn5.2 h] at hz; cases hz
        | some m => exact ⟨m, rfl⟩
      rw [hK] at st ho5 h5 h5s
      dsimp only [Option.getD_some] at st ho5 h5 h5s
      have hm := cycK_len (E := E) hN _ none (fun _ h => by cases h) m hK
      refine bsplitd (fun hl => ?_) (fun hl => ?_)
      · rw [if_pos (by unfold cycB; rw [decide_eq_true (by omega)]; rfl)] at st
        refine hq' _ _ ?_
        refine nw (by omega) (by omega) ?_
        exact ⟨(k + 1, o9), yes st, by dsimp only; omega, Ent.mk (fun _ _ h => h.pick [0, 1, 3] rfl rfl) rfl rfl⟩
      have hcb : cycB (cycL M E E[k]) m = (decide ((cycL M E E[k]).length = m.length) && decide (cmpL (cycL M E E[k]) m < 0)) := by
        unfold cycB; rw [decide_eq_false (by omega)]; rfl
      rw [hcb] at st
      refine bsplitd (fun he => ?_) (fun he => ?_)
      · rw [decide_eq_true (by omega : (cycL M E E[k]).length = m.length), Bool.true_and] at st
        refine callV _ (fun w' hm => compareInts_spec w' (h9s.mono (encF_mono _) (hm 3 _ rfl)) (h5s.mono (encF_mono _) (hm 2 _ rfl)) (by omega)) ?_
        refine hq' _ _ ?_
        refine bsplitd (fun hc => ?_) (fun hc => ?_)
        · rw [if_pos (decide_eq_true hc)] at st
          refine nw (by omega) (by omega) ?_
          exact ⟨(k + 1, o9), yes st, by dsimp only; omega, Ent.mk (fun _ _ h => h.pick [0, 1, 3] rfl rfl) rfl rfl⟩
        · rw [if_neg (by rw [decide_eq_false hc]; exact Bool.false_ne_true)] at st
          refine nw (by omega) (by omega) ?_
          exact ⟨(k + 1, o5), no (st.trans hK.symm), by dsimp only; omega, Ent.mk (fun _ _ h => h.pick [0, 1, 2] rfl rfl) rfl rfl⟩
      · rw [decide_eq_false (by omega : ¬ (cycL M E E[k]).length = m.length), Bool.false_and, if_neg Bool.false_ne_true] at st
        refine hq' _ _ ?_
        refine nw (by omega) (by omega) ?_
        exact ⟨(k + 1, o5), no (st.trans hK.symm), by dsimp only; omega, Ent.mk (fun _ _ h => h.pick [0, 1, 2] rfl rfl) rfl rfl⟩
  · rw [List.take_of_length_le (by omega)] at ho5 hn5
    refine qNilEq rfl ?_
    refine bsplit (fun hz => ?_) (fun hz => ?_)
    · have hK : cycK M E E = none := hn5.1 (Option.isNone_iff_eq_none.1 hz)
      refine ⟨[.hp Hp.emp], ⟨Os.nil, ?_, rfl, ?_⟩, fun w' h => (h.pick [0] rfl rfl).emp⟩
      · rw [hcc, hK]; rfl
      · rw [hcr, hK]; exact OwnO.nil _ _ _
    · obtain ⟨m, hK⟩ : ∃ m, cycK M E E = some m := by
        cases h : cycK M E E with
        | none => rw [Option.isNone_eq_false_iff, hn5.2 h] at hz; cases hz
        | some m => exact ⟨m, rfl⟩
      refine ⟨[.hp o5.h], ⟨o5, ?_, rfl, ?_⟩, fun w' h => h.pick [0, 2] rfl rfl⟩
      · rw [hcc, hK]
      · rw [hcr]; exact ho5
end Go.Proofs.Ytdjhgcpmipglfaa
