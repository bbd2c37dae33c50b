/- Contract of the reference's Order. Its premises are its own. -/
import Derived.Test.YtdjhgcpmipglfaaYL5
namespace Go.Proofs.Ytdjhgcpmipglfaa
open Go Go.RowKit Go.Dw
theorem ordK_bad {N : Nat} {E : List (Int × Int)} {i : Nat} {D : List Int} (hD : ordK N E i = some D) (hno : (List.range N).find? (rdy E D) = none) (hi : i < N) : ordK N E N = none := by
  have h1 : ordK N E (i + 1) = none := by rw [ordK, hD]; dsimp only; rw [hno]
  have : ∀ d, ordK N E (i + 1 + d) = none := fun d => by
    induction d with
    | zero => exact h1
    | succ d ih => rw [← Nat.add_assoc, ordK, ih]
  have := this (N - (i + 1))
  rwa [show i + 1 + (N - (i + 1)) = N by omega] at this
def fnd (N : Nat) (E : List (Int × Int)) (D : List Int) (j : Nat) : Int := match ((List.range N).drop j).find? (rdy E D) with | none => -1 | some v => v
theorem fnd_end (N : Nat) (E : List (Int × Int)) (D : List Int) : fnd N E D N = -1 := by
  unfold fnd; rw [List.drop_of_length_le (by simp)]; rfl
theorem fnd_step {N : Nat} {E : List (Int × Int)} {D : List Int} {j : Nat} (hj : j < N) : fnd N E D j = if rdy E D j then (j : Int) else fnd N E D (j + 1) := by
  unfold fnd
  rw [List.drop_eq_getElem_cons (by simpa using hj), List.find?_cons, List.getElem_range]
  cases rdy E D j <;> rfl
def rdyP (D : List Int) (b : Nat) (e : Int × Int) : Bool := !decide (e.2 = (b : Int)) || decide (e.1 ∈ D)
def rdyK (E : List (Int × Int)) (D : List Int) (b k : Nat) : Bool := !decide ((b : Int) ∈ D) && (E.take k).all (rdyP D b)
theorem rdyK_succ {E : List (Int × Int)} {D : List Int} {b k : Nat} (hk : k < E.length) : rdyK E D b (k + 1) = (rdyK E D b k && rdyP D b E[k]) := by
  unfold rdyK
  rw [List.take_succ_eq_append_getElem hk, List.all_append, List.all_cons, List.all_nil, Bool.and_true, Bool.and_assoc]
theorem rdyK_end (E : List (Int × Int)) (D : List Int) (b : Nat) : rdyK E D b E.length = rdy E D b := by
  unfold rdyK rdy rdyP; rw [List.take_length]
set_option maxRecDepth 10000 in
theorem ROrder_spec {a : Option Addr} {n c : Nat} {E : List (Int × Int)} (N : Nat) (w : World) (hL : Sl (encF fE) 2 (Hp.whole w) a n c E) (hG : Gr N E) :
    CallsE Try.prog 34 #[gv N a n c] w (RetI w ((ordK N E N).getD []) (match ordK N E N with | none => 30 | some _ => 0)) := by
  have hlen := hL.len
  have hN := hG.hN
  have hEl := hG.len
  refine enter (X := cx 71) (cxg _) (args := [.agg #[.int .i64 N, .slice a n c]]) [.tmp 2, .tmp 3] Try.func34 rfl rfl rfl rfl rfl ?_
  intro b1
  refine mkO (f := fB) (cxg _) (e := 4) rfl N false rfl rfl rfl rfl (by omega) fun o ho' ho => ?_
  have z2 : doneL N [] = List.replicate N false := by
    apply List.ext_getElem
    · simp [doneL]
    · intro i h1 h2; simp [doneL]
  refine NeedL.mk (Nat × Dw.Os × Dw.Os × List Int) (fun g => [(1, .bx 1 0), (4, .v g.2.2.1.v), (5, .v g.2.1.v)]) (fun g => [.hp (Hp.whole w), .box b1 [.int .i64 N, .slice a n c] 35, .hp g.2.1.h, .hp g.2.2.1.h])
    (fun g => g.1 ≤ N ∧ g.2.1.n = N ∧ ordK N E g.1 = some g.2.2.2 ∧ OwnO fB 4 1 g.2.1 (doneL N g.2.2.2) ∧ OwnO fI 3 1 g.2.2.1 g.2.2.2) (fun g => N - g.1) (0, o, Os.nil, [])
    ⟨Nat.zero_le _, ho', rfl, by dsimp only; rw [z2]; exact ho, OwnO.nil _ _ _⟩ (Ent.mk (fun _ _ h => h.emp) rfl rfl) ?_
  clear ho' ho o
  rintro ⟨i, oD, oO, D⟩ ⟨hi, hDn, hD, hoD, hoO⟩
  dsimp only at *
  have hDl := ordK_len i D hD
  have hOn := hoO.len
  have hdl : (doneL N D).length = N := by simp [doneL]
  refine bsplitd (fun hlt => ?_) (fun hge => ?_)
  · refine nw (by omega) (by omega) ?_
    refine NeedL.mk Nat (fun j => [(1, .bx 1 0), (4, .v oO.v), (5, .v oD.v), (6, .v (.int .i64 (fnd N E D j))), (7, .v (.int .i64 ((j : Int) - 1)))]) (fun _ => [.hp (Hp.whole w), .box b1 [.int .i64 N, .slice a n c] 35, .hp oD.h, .hp oO.h])
      (fun j => j ≤ N) (fun j => j) N (Nat.le_refl _) (Ent.mk (fun _ _ h => h) (by rw [fnd_end]; rfl) rfl) ?_
    intro j hj
    refine bsplitd (fun hjl => ?_) (fun hjg => ?_)
    · obtain ⟨b, rfl⟩ : ∃ b, j = b + 1 := ⟨j - 1, by omega⟩
      have hbN : b < N := by omega
      have st := fnd_step (E := E) (D := D) hbN
      have hdv : (doneL N D)[b]'(by omega) = decide ((b : Int) ∈ D) := by simp [doneL]
      refine hideQ (fun q' hq' => ?_)
      refine oidx1 (cxg _) (e := 4) rfl rfl hoD b (by omega) (by omega) fun b3 hb3 => ?_
      refine old (g := fun x : Bool => .bool x) (fun _ => rfl) (cxg _) (i := 2) rfl hb3 hoD (by omega) rfl ?_
      refine hq' _ _ ?_
      refine NeedL.mk (Nat × Bool) (fun g => [(1, .bx 1 0), (4, .v oO.v), (5, .v oD.v), (6, .v (.int .i64 (fnd N E D (b + 1)))), (7, .v (.int .i64 (((b + 1 : Nat) : Int) - 1))), (8, .v (.bool g.2)), (9, .v (.int .i64 g.1))])
        (fun _ => [.hp (Hp.whole w), .box b1 [.int .i64 N, .slice a n c] 35, .hp oD.h, .hp oO.h]) (fun g => g.1 ≤ n ∧ g.2 = rdyK E D b g.1) (fun g => n - g.1) (0, !((doneL N D)[b]'(by omega))) ⟨Nat.zero_le _, by dsimp only; rw [hdv]; simp [rdyK]⟩ (Ent.mk (fun _ _ h => h) rfl rfl) ?_
      rintro ⟨k, r⟩ ⟨hk, hr⟩
      dsimp only at *
      refine bsplitd (fun hkl => ?_) (fun hkg => ?_)
      · have hk' : k < E.length := by omega
        have st2 := rdyK_succ (D := D) (b := b) hk'
        rw [← hr] at st2
        obtain ⟨r1, r2, _, _⟩ := hG.rng _ (List.getElem_mem hk')
        obtain ⟨v1, hv1⟩ : ∃ v : Nat, E[k].1 = v := ⟨_, (Int.toNat_of_nonneg r1).symm⟩
        have hdv1 : (doneL N D)[v1]'(by omega) = decide (E[k].1 ∈ D) := by simp [doneL, hv1]
        refine hideQ (fun q' hq' => ?_)
        refine bsplit (fun h1 => ?_) (fun h1 => ?_)
        · refine idx (cxg _) (e := 85) rfl hL k rfl hk' (fun b9 o9 cs hcs hR hcell => ?_)
          subst hR
          refine idxA (cxg _) rfl rfl rfl 1 rfl rfl ?_
          refine ld1 (cxg _) (i := 0) rfl (hcell 1 _ rfl) rfl ?_
          refine bsplitd (fun h2 => ?_) (fun h2 => ?_)
          · refine hq' _ _ ?_
            refine nw (by omega) (by omega) ?_
            refine ⟨(k + 1, true), ⟨by dsimp only; omega, ?_⟩, by dsimp only; omega, Ent.mk (fun _ _ h => h) rfl rfl⟩
            dsimp only
            rw [st2, h1]; unfold rdyP; rw [decide_eq_false (show ¬ E[k].2 = (b : Int) by omega)]; rfl
          · refine idx (cxg _) (e := 85) rfl hL k rfl hk' (fun b9 o9 cs hcs hR hcell => ?_)
            subst hR
            refine idxA (cxg _) rfl rfl rfl 0 rfl rfl ?_
            refine ld1 (cxg _) (i := 0) rfl (hcell 0 _ rfl) rfl ?_
            refine oidx1 (cxg _) (e := 4) rfl rfl hoD v1 hv1 (by omega) fun b3 hb3 => ?_
            refine old (g := fun x : Bool => .bool x) (fun _ => rfl) (cxg _) (i := 2) rfl hb3 hoD (by omega) rfl ?_
            refine hq' _ _ ?_
            refine nw (by omega) (by omega) ?_
            refine ⟨(k + 1, (doneL N D)[v1]'(by omega)), ⟨by dsimp only; omega, ?_⟩, by dsimp only; omega, Ent.mk (fun _ _ h => h) rfl rfl⟩
            dsimp only
            rw [st2, h1, hdv1]; unfold rdyP; rw [decide_eq_true (show E[k].2 = (b : Int) by omega)]; rfl
        · refine hq' _ _ ?_
          refine nw (by omega) (by omega) ?_
          refine ⟨(k + 1, false), ⟨by dsimp only; omega, ?_⟩, by dsimp only; omega, Ent.mk (fun _ _ h => h) rfl rfl⟩
          dsimp only
          rw [st2, h1]; rfl
      · rw [show k = E.length by omega, rdyK_end] at hr
        refine bsplit (fun h1 => ?_) (fun h1 => ?_)
        · rw [← hr, h1, if_pos rfl] at st
          refine nw (by omega) (by omega) ?_
          exact ⟨b, by omega, Nat.lt_succ_self _, Ent.mk (fun _ _ h => h) (by rw [st, show (((b + 1 : Nat) : Int) - 1 - 1) = (b : Int) - 1 by omega, show (((b + 1 : Nat) : Int) - 1) = (b : Int) by omega]; rfl) rfl⟩
        · rw [← hr, h1, if_neg Bool.false_ne_true] at st
          refine nw (by omega) (by omega) ?_
          exact ⟨b, by omega, Nat.lt_succ_self _, Ent.mk (fun _ _ h => h) (by rw [st, show (((b + 1 : Nat) : Int) - 1 - 1) = (b : Int) - 1 by omega]; rfl) rfl⟩
    · obtain rfl : j = 0 := by omega
      have hf0 : fnd N E D 0 = match (List.range N).find? (rdy E D) with | none => -1 | some v => (v : Int) := rfl
      refine bsplitd (fun hneg => ?_) (fun hpos => ?_)
      · have hnone : (List.range N).find? (rdy E D) = none := by
          cases h : (List.range N).find? (rdy E D) with
          | none => rfl
          | some v => rw [hf0, h] at hneg; exact absurd hneg (Int.not_lt.2 (Int.natCast_nonneg v))
        have hb := ordK_bad hD hnone (by omega)
        refine ⟨[.hp Hp.emp], ⟨Os.nil, ?_, rfl, ?_⟩, fun w' h => (h.pick [0] rfl rfl).emp⟩
        · rw [hb]; rfl
        · rw [hb]; exact OwnO.nil _ _ _
      · obtain ⟨v, hv⟩ : ∃ v, (List.range N).find? (rdy E D) = some v := by
          cases h : (List.range N).find? (rdy E D) with
          | none => rw [hf0, h] at hpos; dsimp only at hpos; omega
          | some v => exact ⟨v, rfl⟩
        have hfv : fnd N E D 0 = (v : Int) := by rw [hf0, hv]
        have hvN := List.mem_range.1 (List.mem_of_find?_eq_some hv)
        have hnext : ordK N E (i + 1) = some (D ++ [(v : Int)]) := by rw [ordK, hD]; dsimp only; rw [hv]
        refine hideQ (fun q' hq' => ?_)
        refine oidx1 (cxg _) (e := 4) rfl rfl hoD v hfv (by omega) fun b3 hb3 => ?_
        refine osto (g := fun x : Bool => .bool x) (fun _ => rfl) (cxg _) (i := 2) rfl hb3 hoD (by omega) rfl rfl true rfl rfl rfl fun oD' d1 d2 d3 hoD' => ?_
        refine hq' _ _ ?_
        intro b4
        refine appO (cxg _) (e := 3) rfl (i := 3) rfl hoO (j := 4) (fnd N E D 0) rfl rfl rfl rfl (by omega) (fun oO' hoO' => ?_)
        exact ⟨(i + 1, oD', oO', D ++ [(v : Int)]), ⟨by dsimp only; omega, by dsimp only; omega, hnext, by dsimp only; rw [doneL_snoc]; exact hoD', by dsimp only; rw [hfv] at hoO'; exact hoO'⟩, by dsimp only; omega, Ent.mk (fun _ _ h => h.pick [0, 1, 2, 3] rfl rfl) (by dsimp only [Os.v]; rw [d1, d2, d3]; rfl) rfl⟩
  · rw [show i = N by omega] at hD
    refine ⟨[.hp oO.h], ⟨oO, ?_, rfl, ?_⟩, fun w' h => h.pick [0, 3] rfl rfl⟩
    · rw [hD]
    · rw [hD]; exact hoO
end Go.Proofs.Ytdjhgcpmipglfaa
