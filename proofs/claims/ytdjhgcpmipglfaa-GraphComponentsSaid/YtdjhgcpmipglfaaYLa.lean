/- Contracts of the law's chosen, of the reference's Reach, Closure, Closed. Their premises are their own. -/
import Derived.Test.YtdjhgcpmipglfaaYL5
namespace Go.Dw
open Go Go.RowKit
section
variable {P : Program} {s : List Ch}
theorem qMin {tys : Array TypeId} {ty : Nat} {x y : Int} {q : TV → List Ch → Prop} (h : q (.v (.int .i64 (min x y))) s) : NeedE P s (Builtin.min_ tys ty #[.int .i64 x, .int .i64 y]) q := by
  refine ⟨fun w0 w hok => ⟨_, _, w, s, ?_, hok, Keep.refl s, rfl, h⟩⟩
  simp [Builtin.min_, Builtin.min2, Int.min_def]
  split <;> split <;> (try rfl) <;> (congr 1; omega)
theorem qShr {xo yo : Operand} {ty : Nat} {x y : Int} (hy : 0 ≤ y) {q : TV → Prop} (h : q (.v (.int .u8 (x.fdiv (2 ^ (min y.toNat 8)))))) : NeedQ P s (do eqGuard .shr ty xo yo (.int .u8 x) (.int .i64 y); binOp .shr ty (.int .u8 x) (.int .i64 y)) q := by
  refine ⟨_, fun w _ => ?_, h⟩
  have h0 : ¬ y < 0 := by omega
  simp [eqGuard, binOp, Op.shift, h0, IntKind.bits]
theorem qAnd {ty : Nat} {x y : Int} {q : TV → Prop} (h : q (.v (.int .u8 (IntKind.u8.wrap ((BitVec.ofInt 8 x &&& BitVec.ofInt 8 y).toNat : Int))))) : NeedQ P s (binOp .and ty (.int .u8 x) (.int .u8 y)) q := by
  refine ⟨_, fun w _ => ?_, h⟩
  rfl
end
end Go.Dw
namespace Go.Proofs.Ytdjhgcpmipglfaa
open Go Go.RowKit Go.Dw
/-- is the bit of a node set? -/
def bitF (u : Int) (v : Nat) : Bool := decide (IntKind.u8.wrap ((BitVec.ofInt 8 (u.fdiv (2 ^ (min (v : Int).toNat 8))) &&& BitVec.ofInt 8 1).toNat : Int) = 1)
def chsK (u : Int) (k : Nat) : List Int := ((List.range k).filter (bitF u)).map fun v : Nat => (v : Int)
theorem chsK_succ (u : Int) (k : Nat) : chsK u (k + 1) = if bitF u k then chsK u k ++ [(k : Int)] else chsK u k := by
  unfold chsK
  rw [List.range_succ, List.filter_append, List.map_append]
  by_cases h : bitF u k <;> simp [h]
theorem chsK_len (u : Int) (k : Nat) : (chsK u k).length ≤ k := by
  unfold chsK; rw [List.length_map]; exact Nat.le_trans (List.length_filter_le _ _) (by simp)
theorem chosen_spec {a : Option Addr} {n c : Nat} (N : Nat) (hN : N ≤ 8) (u : Int) (w : World) :
    CallsE Try.prog 36 #[gv N a n c, .int .u8 u] w (Ret w fun v cs => ∃ o : Dw.Os, v = o.v ∧ cs = [.hp o.h] ∧ OwnO fI 3 1 o (chsK u N)) := by
  refine enter (X := cx 24) (cxg _) (args := [.agg #[.int .i64 N, .slice a n c], .int .u8 u]) [.tmp 4] Try.func36 rfl rfl rfl rfl rfl ?_
  intro b1
  refine qMin ?_
  have hmin : min (N : Int) 8 = N := by omega
  refine NeedL.mk (Nat × Dw.Os) (fun g => [(1, .v (.int .u8 u)), (5, .v g.2.v), (9, .v (.int .i64 N)), (10, .v (.int .i64 g.1))]) (fun g => [.hp (Hp.whole w), .hp g.2.h])
    (fun g => g.1 ≤ N ∧ OwnO fI 3 1 g.2 (chsK u g.1)) (fun g => N - g.1) (0, Os.nil) ⟨Nat.zero_le _, OwnO.nil _ _ _⟩ (Ent.mk (fun _ _ h => (h.pick [0] rfl rfl).emp) (by rw [hmin]; rfl) rfl) ?_
  rintro ⟨k, o⟩ ⟨hk, ho⟩
  dsimp only at *
  refine bsplitd (fun hlt => ?_) (fun hge => ?_)
  · have st := chsK_succ u k
    have hl := chsK_len u k
    refine hideQ (fun _ h => h _ _ ?_)
    refine hideQ (fun q' hq' => ?_)
    refine qShr (by omega) ?_
    refine qAnd ?_
    refine hq' _ _ ?_
    refine bsplit (fun hb => ?_) (fun hb => ?_)
    · rw [if_pos (show bitF u k = true from hb)] at st
      intro b4
      refine appO (cxg _) (e := 3) rfl (i := 1) rfl ho (j := 2) (k : Int) rfl rfl rfl rfl (by omega) (fun o' ho' => ?_)
      refine nw (by omega) (by omega) ?_
      exact ⟨(k + 1, o'), ⟨by dsimp only; omega, by dsimp only; rw [st]; exact ho'⟩, by dsimp only; omega, Ent.mk (fun _ _ h => h.pick [0, 1] rfl rfl) rfl rfl⟩
    · rw [if_neg (show ¬ bitF u k = true by rw [show bitF u k = false from hb]; exact Bool.false_ne_true)] at st
      refine nw (by omega) (by omega) ?_
      exact ⟨(k + 1, o), ⟨by dsimp only; omega, by dsimp only; rw [st]; exact ho⟩, by dsimp only; omega, Ent.mk (fun _ _ h => h) rfl rfl⟩
  · rw [show k = N by omega] at ho
    exact ⟨[.hp o.h], ⟨o, rfl, rfl, ho⟩, fun w' h => h⟩
/-! ### the reference -/
def isR (N : Nat) (E : List (Int × Int)) (L : List Int) (b : Nat) : Bool := L.any fun x => decide (0 ≤ dz (dst N E x b))
def reaK (N : Nat) (E : List (Int × Int)) (L : List Int) (k : Nat) : List Int := ((List.range k).filter (isR N E L)).map fun v : Nat => (v : Int)
theorem reaK_succ (N : Nat) (E : List (Int × Int)) (L : List Int) (k : Nat) : reaK N E L (k + 1) = if isR N E L k then reaK N E L k ++ [(k : Int)] else reaK N E L k := by
  unfold reaK
  rw [List.range_succ, List.filter_append, List.map_append]
  by_cases h : isR N E L k <;> simp [h]
theorem reaK_len (N : Nat) (E : List (Int × Int)) (L : List Int) (k : Nat) : (reaK N E L k).length ≤ k := by
  unfold reaK; rw [List.length_map]; exact Nat.le_trans (List.length_filter_le _ _) (by simp)
theorem rowV {N : Nat} {E : List (Int × Int)} {v : Int} {b : Nat} (h : b < ((List.range N).map fun b : Nat => dz (dst N E v b)).length) : ((List.range N).map fun b : Nat => dz (dst N E v b))[b] = dz (dst N E v b) := by simp
theorem tabV {N : Nat} {E : List (Int × Int)} {v : Nat} (h : v < (tabF N E).length) : (tabF N E)[v] = (List.range N).map fun b : Nat => dz (dst N E v b) := by simp [tabF]
set_option maxRecDepth 10000 in
theorem RReach_spec {a a1 : Option Addr} {n c n1 c1 : Nat} {E : List (Int × Int)} {L : List Int} (N : Nat) (w : World) (hL : Sl (encF fE) 2 (Hp.whole w) a n c E) (hM : Sl (encF fI) 1 (Hp.whole w) a1 n1 c1 L) (hG : Gr N E) (hr : ∀ x ∈ L, 0 ≤ x ∧ x < N) (hl : L.length < 1000000) :
    CallsE Try.prog 63 #[gv N a n c, .slice a1 n1 c1] w (Ret w fun v cs => ∃ o : Dw.Os, v = o.v ∧ cs = [.hp o.h] ∧ OwnO fI 3 1 o (reaK N E L N)) := by
  have hN := hG.hN
  have hml := hM.len
  have htl : (tabF N E).length = N := by simp [tabF]
  refine enter (X := cx 44) (cxg _) (args := [.agg #[.int .i64 N, .slice a n c], .slice a1 n1 c1]) [.tmp 4] Try.func63 rfl rfl rfl rfl rfl ?_
  intro b1
  refine call (fun w' hm => Table_spec N w' (hL.mono (encF_mono _) (hm 0 _ rfl)) hG) ?_
  rintro _ _ ⟨a2, c2, h1, rfl, rfl, hT⟩
  refine NeedL.mk (Nat × Dw.Os) (fun g => [(1, .v (.slice a1 n1 c1)), (2, .bx 1 0), (5, .v (.slice a2 N c2)), (6, .v g.2.v), (7, .v (.int .i64 g.1))]) (fun g => [.hp (Hp.whole w), .box b1 [.int .i64 N, .slice a n c] 35, .hp h1, .hp g.2.h])
    (fun g => g.1 ≤ N ∧ OwnO fI 3 1 g.2 (reaK N E L g.1)) (fun g => N - g.1) (0, Os.nil) ⟨Nat.zero_le _, OwnO.nil _ _ _⟩ (Ent.mk (fun _ _ h => h.emp) rfl rfl) ?_
  rintro ⟨b, o⟩ ⟨hb, ho⟩
  dsimp only at *
  have st := reaK_succ N E L b
  have hrl := reaK_len N E L b
  refine bsplitd (fun hlt => ?_) (fun hge => ?_)
  · refine NeedL.mk (Nat × Bool) (fun g => [(1, .v (.slice a1 n1 c1)), (2, .bx 1 0), (5, .v (.slice a2 N c2)), (6, .v o.v), (7, .v (.int .i64 b)), (8, .v (.bool g.2)), (9, .v (.int .i64 g.1))]) (fun _ => [.hp (Hp.whole w), .box b1 [.int .i64 N, .slice a n c] 35, .hp h1, .hp o.h])
      (fun g => g.1 ≤ n1 ∧ g.2 = (L.take g.1).any fun x => decide (0 ≤ dz (dst N E x b))) (fun g => n1 - g.1) (0, false) ⟨Nat.zero_le _, rfl⟩ (Ent.mk (fun _ _ h => h) rfl rfl) ?_
    rintro ⟨k, r⟩ ⟨hk, hrr⟩
    dsimp only at *
    refine bsplitd (fun hkl => ?_) (fun hkg => ?_)
    · have hk' : k < L.length := by omega
      have st2 := any_snoc (p := fun x => decide (0 ≤ dz (dst N E x b))) hk'
      rw [← hrr] at st2
      obtain ⟨q1, q2⟩ := hr _ (List.getElem_mem hk')
      obtain ⟨v, hv⟩ : ∃ v : Nat, L[k] = v := ⟨_, (Int.toNat_of_nonneg q1).symm⟩
      have hvt : v < (tabF N E).length := by omega
      have hbt : b < ((List.range N).map fun b : Nat => dz (dst N E v b)).length := by simp; omega
      refine hideQ (fun q' hq' => ?_)
      refine bsplit (fun h2 => ?_) (fun h2 => ?_)
      · refine hq' _ _ ?_
        refine nw (by omega) (by omega) ?_
        exact ⟨(k + 1, true), ⟨by dsimp only; omega, by dsimp only; rw [st2, h2]; rfl⟩, by dsimp only; omega, Ent.mk (fun _ _ h => h) rfl rfl⟩
      · refine idx (cxg _) (e := 3) rfl hM k rfl hk' (fun b9 o9 cs hcs hR hcell => ?_)
        subst hR
        refine ld1 (cxg _) (i := 0) rfl (hcell 0 _ rfl) rfl ?_
        refine idx (cxg _) (e := 42) rfl hT v hv hvt (fun b9 o9 cs hcs hR hcell => ?_)
        obtain ⟨a3, n3, c3, rfl, hs3⟩ := hR
        rw [tabV hvt] at hs3
        refine ld1 (cxg _) (i := 2) rfl (hcell 0 _ rfl) rfl ?_
        refine idx (cxg _) (e := 3) rfl hs3 b rfl hbt (fun b9 o9 cs hcs hR hcell => ?_)
        subst hR
        refine ld1 (cxg _) (i := 2) rfl (hcell 0 _ rfl) rfl ?_
        refine hq' _ _ ?_
        refine nw (by omega) (by omega) ?_
        refine ⟨(k + 1, decide (((List.range N).map fun b : Nat => dz (dst N E v b))[b] ≥ 0)), ⟨by dsimp only; omega, ?_⟩, by dsimp only; omega, Ent.mk (fun _ _ h => h) rfl rfl⟩
        dsimp only
        rw [st2, h2, Bool.false_or, hv, rowV hbt]
    · have hrr' : r = isR N E L b := by rw [List.take_of_length_le (by omega)] at hrr; exact hrr
      refine bsplit (fun h2 => ?_) (fun h2 => ?_)
      · rw [← hrr', h2, if_pos rfl] at st
        intro b4
        refine appO (cxg _) (e := 3) rfl (i := 3) rfl ho (j := 4) (b : Int) rfl rfl rfl rfl (by omega) (fun o' ho' => ?_)
        refine nw (by omega) (by omega) ?_
        exact ⟨(b + 1, o'), ⟨by dsimp only; omega, by dsimp only; rw [st]; exact ho'⟩, by dsimp only; omega, Ent.mk (fun _ _ h => h.pick [0, 1, 2, 3] rfl rfl) rfl rfl⟩
      · rw [← hrr', h2, if_neg Bool.false_ne_true] at st
        refine nw (by omega) (by omega) ?_
        exact ⟨(b + 1, o), ⟨by dsimp only; omega, by dsimp only; rw [st]; exact ho⟩, by dsimp only; omega, Ent.mk (fun _ _ h => h) rfl rfl⟩
  · rw [show b = N by omega] at ho
    exact ⟨[.hp o.h], ⟨o, rfl, rfl, ho⟩, fun w' h => h.pick [0, 3] rfl rfl⟩
theorem RClosed_spec {a a1 : Option Addr} {n c n1 c1 : Nat} {E : List (Int × Int)} {L : List Int} (N : Nat) (w : World) (hL : Sl (encF fE) 2 (Hp.whole w) a n c E) (hM : Sl (encF fI) 1 (Hp.whole w) a1 n1 c1 L) (hG : Gr N E) (hr : ∀ x ∈ L, 0 ≤ x ∧ x < N) (hl : L.length < 1000000) :
    CallsE Try.prog 65 #[gv N a n c, .slice a1 n1 c1] w (RetV w (.bool (decide ((reaK N E L N).length = L.length)))) := by
  have hml := hM.len
  refine enter (X := cx 12) (cxg _) (args := [.agg #[.int .i64 N, .slice a n c], .slice a1 n1 c1]) [.tmp 4] Try.func65 rfl rfl rfl rfl rfl ?_
  intro b1
  refine call (fun w' hm => RReach_spec N w' (hL.mono (encF_mono _) (hm 0 _ rfl)) (hM.mono (encF_mono _) (hm 0 _ rfl)) hG hr hl) ?_
  rintro _ _ ⟨o, rfl, rfl, ho⟩
  have hol := ho.len
  refine ⟨[], ⟨?_, rfl⟩, fun w' h => h.pick [0] rfl rfl⟩
  congr 1
  rw [hol, hml, Bool.eq_iff_iff, decide_eq_true_eq, decide_eq_true_eq]
  omega
theorem RClosure_spec {a : Option Addr} {n c : Nat} {E : List (Int × Int)} (N : Nat) (w : World) (hL : Sl (encF fE) 2 (Hp.whole w) a n c E) (hG : Gr N E) :
    CallsE Try.prog 64 #[gv N a n c] w (Ret w fun v cs => ∃ a' n' c' h, v = .slice a' n' c' ∧ cs = [.hp h] ∧ Sl (encS (encF fI) 1) 1 h a' n' c' ((List.range N).map fun x : Nat => reaK N E [(x : Int)] N)) := by
  have hN := hG.hN
  refine enter (X := cx 19) (cxg _) (args := [.agg #[.int .i64 N, .slice a n c]]) [.tmp 2] Try.func64 rfl rfl rfl rfl rfl ?_
  intro b1
  refine NeedL.mkS (Nat × Dw.Os × List Dw.Os × Hp) (fun g => [(1, .bx 1 0), (3, .v g.2.1.v), (4, .v (.int .i64 g.1))]) (fun g => [.hp (Hp.whole w), .box b1 [.int .i64 N, .slice a n c] 35, .hp g.2.1.h, .hp g.2.2.2])
    (fun g => g.1 ≤ N ∧ OwnO Os.row 42 1 g.2.1 g.2.2.1 ∧ Rws fI 3 1 g.2.2.2 g.2.2.1 ((List.range g.1).map fun x : Nat => reaK N E [(x : Int)] N)) (fun g => N - g.1) (0, Os.nil, [], Hp.emp)
    ⟨Nat.zero_le _, OwnO.nil _ _ _, Rws.nil _ _ _ _⟩ (Ent.mk (fun _ _ h => h.emp.emp) rfl rfl) ?_
  rintro ⟨k, oR, os, H⟩ ⟨hk, hoR, hr⟩ hsat
  dsimp only at *
  have hrl : os.length = k := by rw [hr.len, List.length_map, List.length_range]
  refine bsplitd (fun hlt => ?_) (fun hge => ?_)
  · intro b2
    refine callS (fun w' hm => RReach_spec N w' (hL.mono (encF_mono _) (hm 0 _ rfl)) (Sl.box (f := fI) (fun _ => rfl) (by decide) (hm 4 _ rfl) [(k : Int)] rfl rfl (by simp)) hG (fun x hx => by simp at hx; omega) (by simp)) ?_
    rintro _ _ ⟨o4, rfl, rfl, ho4⟩ hsat2
    intro b5
    refine appO (f := Os.row) (cxg _) (e := 42) rfl (i := 2) rfl hoR (j := 6) o4 rfl rfl rfl rfl (by omega) (fun oR' hoR' => ?_)
    refine nw (by omega) (by omega) ?_
    refine ⟨(k + 1, oR', os ++ [o4], H.join o4.h), ⟨by dsimp only; omega, hoR', ?_⟩, by dsimp only; omega, Ent.mk (fun _ _ h => Ok.pick [0, 2, 3, 1] rfl rfl (Ok.join (c := .hp (Hp.whole w)) (Ok.pick [0, 3, 5, 1, 2] rfl rfl h))) rfl rfl⟩
    dsimp only
    rw [List.range_succ, List.map_append]
    exact hr.push ho4 (hsat2.dj 3 5 rfl rfl (by decide))
  · rw [show k = N by omega] at hr
    have hh := Rws.sl (f := fI) (fun _ => rfl) (by decide) hr hoR (hsat.dj 2 3 rfl rfl (by decide))
    exact ⟨[.hp (oR.h.join H)], ⟨oR.a, oR.n, oR.c, _, rfl, rfl, hh⟩, fun w' h => Ok.join (c := .hp (Hp.whole w)) (d := .hp oR.h) (e := .hp H) (s := []) (h.pick [0, 2, 3] rfl rfl)⟩
end Go.Proofs.Ytdjhgcpmipglfaa
