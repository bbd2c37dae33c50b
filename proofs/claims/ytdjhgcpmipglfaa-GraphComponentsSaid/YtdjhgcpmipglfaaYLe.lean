/- Contracts of the reference's Condense and Sinks. Their premises are their own. -/
import Derived.Test.YtdjhgcpmipglfaaYLd
namespace Go.Proofs.Ytdjhgcpmipglfaa
open Go Go.RowKit Go.Dw
theorem comp_row' {N : Nat} {E : List (Int × Int)} {i : Nat} (hi : i < (compF N E).length) : ((compF N E)[i]).length ≤ N := by
  have hget : (compF N E)[i] = cls N E ((reps N E N)[i]'(by rw [← comp_len]; exact hi)) := by simp [compF]
  rw [hget]
  exact clsT_len N E _ N
set_option maxRecDepth 10000 in
theorem RCondense_spec {a : Option Addr} {n c : Nat} {E : List (Int × Int)} (N : Nat) (w : World) (hL : Sl (encF fE) 2 (Hp.whole w) a n c E) (hG : Gr N E) :
    CallsE Try.prog 48 #[gv N a n c] w (Ret w fun v cs => ∃ o o2 : Dw.Os, v = .tuple #[gv (condR N E).1 o.a o.n o.c, o2.v] ∧ cs = [.hp o.h, .hp o2.h] ∧ OwnO fE 85 2 o (condR N E).2.1 ∧ OwnO fI 3 1 o2 (ofF N E)) := by
  have hlen := hL.len
  have hEl := hG.len
  have hN := hG.hN
  refine enter (X := cx 87) (cxg _) (args := [.agg #[.int .i64 N, .slice a n c]]) [.cell 2 35, .tmp 3] Try.func48 rfl rfl rfl rfl rfl ?_
  intro b1 b2
  refine call (fun w' hm => RComponents_spec N w' (hL.mono (encF_mono _) (hm 0 _ rfl)) hG) ?_
  rintro _ _ ⟨a', n', c', h, rfl, rfl, hC⟩
  have hCn := hC.len
  have hcl : (compF N E).length ≤ N := compK_len N E N
  refine mkO (f := fI) (cxg _) (e := 3) rfl N 0 rfl rfl rfl rfl (by omega) fun o ho' ho => ?_
  refine NeedL.mk (Nat × Dw.Os) (fun g => [(1, .bx 1 0), (2, .bx 2 0), (4, .v (.slice a' n' c')), (5, .v g.2.v), (6, .v (.int .i64 g.1))])
    (fun g => [.hp (Hp.whole w), .box b1 [.int .i64 N, .slice a n c] 35, .box b2 [.int .i64 0, .slice none 0 0] 35, .hp h, .hp g.2.h])
    (fun g => g.1 ≤ n' ∧ g.2.n = N ∧ OwnO fI 3 1 g.2 (ofS N E g.1 0)) (fun g => n' - g.1) (0, o) ⟨Nat.zero_le _, ho', by dsimp only; rw [ofS_zero hG]; exact ho⟩ (Ent.mk (fun _ _ h => h) rfl rfl) ?_
  clear ho' ho o
  rintro ⟨i, o⟩ ⟨hi, hon, ho⟩
  dsimp only at *
  refine bsplitd (fun hlt => ?_) (fun hge => ?_)
  · have hiC : i < (compF N E).length := by omega
    have hrow := comp_row' hiC
    refine NeedL.mk (Nat × Dw.Os) (fun g => [(1, .bx 1 0), (2, .bx 2 0), (4, .v (.slice a' n' c')), (5, .v g.2.v), (6, .v (.int .i64 i)), (7, .v (.int .i64 g.1))])
      (fun g => [.hp (Hp.whole w), .box b1 [.int .i64 N, .slice a n c] 35, .box b2 [.int .i64 0, .slice none 0 0] 35, .hp h, .hp g.2.h])
      (fun g => g.1 ≤ ((compF N E)[i]).length ∧ g.2.n = N ∧ OwnO fI 3 1 g.2 (ofS N E i g.1)) (fun g => ((compF N E)[i]).length - g.1) (0, o) ⟨Nat.zero_le _, hon, ho⟩ (Ent.mk (fun _ _ h => h) rfl rfl) ?_
    clear hon ho o
    rintro ⟨k, o⟩ ⟨hk, hon, ho⟩
    dsimp only at *
    refine hideQ (fun q' hq' => ?_)
    refine idx (cxg _) (e := 42) rfl hC i rfl hiC (fun b9 o9 cs hcs hR hcell => ?_)
    obtain ⟨a3, n3, c3, rfl, hs3⟩ := hR
    have hn3 := hs3.len
    refine ld1 (cxg _) (i := 3) rfl (hcell 0 _ rfl) rfl ?_
    refine hq' _ _ ?_
    refine bsplitd (fun hltk => ?_) (fun hgek => ?_)
    · have hkr : k < ((compF N E)[i]).length := by omega
      obtain ⟨q1, q2⟩ := comp_rng hiC (List.getElem_mem hkr)
      obtain ⟨v, hv⟩ : ∃ v : Nat, ((compF N E)[i])[k] = v := ⟨_, (Int.toNat_of_nonneg q1).symm⟩
      have hvl : v < (ofS N E i k).length := by simp [ofS]; omega
      refine hideQ (fun q' hq' => ?_)
      refine idx (cxg _) (e := 42) rfl hC i rfl hiC (fun b9 o9 cs hcs hR hcell => ?_)
      obtain ⟨a4, n4, c4, rfl, hs4⟩ := hR
      refine ld1 (cxg _) (i := 3) rfl (hcell 0 _ rfl) rfl ?_
      refine idx (cxg _) (e := 3) rfl hs4 k rfl hkr (fun b9 o9 cs hcs hR hcell => ?_)
      subst hR
      refine ld1 (cxg _) (i := 3) rfl (hcell 0 _ rfl) rfl ?_
      refine oidx1 (cxg _) (e := 3) rfl rfl ho v hv hvl fun b3 hb3 => ?_
      refine osto (g := fun x : Int => .int .i64 x) (fun _ => rfl) (cxg _) (i := 4) rfl hb3 ho hvl rfl rfl (i : Int) rfl rfl rfl fun o3 e1 e2 e3 ho3 => ?_
      refine hq' _ _ ?_
      rw [ofS_step hG hiC hkr hv] at ho3
      refine nw (by omega) (by omega) ?_
      exact ⟨(k + 1, o3), ⟨by dsimp only; omega, by dsimp only; omega, ho3⟩, by dsimp only; omega, Ent.mk (fun _ _ h => h) (by dsimp only [Os.v]; rw [e1, e2, e3]; rfl) rfl⟩
    · rw [show k = ((compF N E)[i]).length by omega, ofS_next hG hiC] at ho
      refine nw (by omega) (by omega) ?_
      exact ⟨(i + 1, o), ⟨by dsimp only; omega, hon, ho⟩, by dsimp only; omega, Ent.mk (fun _ _ h => h) rfl rfl⟩
  rw [show i = (compF N E).length by omega, ofS_end hG] at ho
  have hOs := OwnO.sl (f := fI) (fun _ => rfl) (by decide) ho
  have hol : (ofF N E).length = N := by simp [ofF]
  refine NeedL.mk (Nat × Dw.Os) (fun g => [(1, .bx 1 0), (2, .bx 2 0), (4, .v (.slice a' n' c')), (5, .v o.v), (8, .v g.2.v), (9, .v (.int .i64 g.1))])
    (fun g => [.hp (Hp.whole w), .box b1 [.int .i64 N, .slice a n c] 35, .box b2 [.int .i64 0, .slice none 0 0] 35, .hp h, .hp o.h, .hp g.2.h])
    (fun g => g.1 ≤ n ∧ OwnO fE 85 2 g.2 (condE N E (E.take g.1))) (fun g => n - g.1) (0, Os.nil) ⟨Nat.zero_le _, OwnO.nil _ _ _⟩ (Ent.mk (fun _ _ h => h.emp) rfl rfl) ?_
  rintro ⟨k, o1⟩ ⟨hk, ho1⟩
  dsimp only at *
  refine bsplitd (fun hlt2 => ?_) (fun hge2 => ?_)
  · have hlt' : k < E.length := by omega
    obtain ⟨r1, r2, r3, r4⟩ := hG.rng _ (List.getElem_mem hlt')
    have i1 : E[k].1.toNat < (ofF N E).length := by omega
    have i2 : E[k].2.toNat < (ofF N E).length := by omega
    have v1 : (ofF N E)[E[k].1.toNat] = ofv N E E[k].1 := by unfold ofv; simp [i1]
    have v2 : (ofF N E)[E[k].2.toNat] = ofv N E E[k].2 := by unfold ofv; simp [i2]
    have st := condE_step (N := N) hlt'
    have cl := condE_len N E (E.take k)
    refine hidD (fun q' hq' => ?_)
    refine NeedD.by_order (cxg _) (.take 0 <| .take 1 <| .take 2 <| .take 3 <| .take 4 <| .take 5 <| .take 6 <| .take 7 <| .take 8 <| .take 9 <| .take 10 <| .take 11 <| .take 12 <| .take 13 <| .take 14 <| .take 15 <| .take 16 <| .take 17 <| .take 18 <| .take 19 <| .done) (by kernel_rfl) ?_
    refine idx (cxg _) (e := 85) rfl hL k rfl hlt' (fun b9 o9 cs hcs hR hcell => ?_)
    subst hR
    refine idxA (cxg _) rfl rfl rfl 0 rfl rfl ?_
    refine ld1 (cxg _) (i := 0) rfl (hcell 0 _ rfl) rfl ?_
    refine idx (cxg _) (e := 3) rfl hOs _ (by omega) i1 (fun b9 o9 cs hcs hR hcell => ?_)
    subst hR
    refine ld1 (cxg _) (i := 4) rfl (hcell 0 _ rfl) rfl ?_
    refine idx (cxg _) (e := 85) rfl hL k rfl hlt' (fun b9 o9 cs hcs hR hcell => ?_)
    subst hR
    refine idxA (cxg _) rfl rfl rfl 1 rfl rfl ?_
    refine ld1 (cxg _) (i := 0) rfl (hcell 1 _ rfl) rfl ?_
    refine idx (cxg _) (e := 3) rfl hOs _ (by omega) i2 (fun b9 o9 cs hcs hR hcell => ?_)
    subst hR
    refine ld1 (cxg _) (i := 4) rfl (hcell 0 _ rfl) rfl ?_
    refine hq' _ _ ?_
    refine bsplitd (fun hne => ?_) (fun heq => ?_)
    · rw [v1, v2] at hne
      rw [if_pos hne] at st
      intro b5
      refine appO (cxg _) (e := 85) rfl (i := 5) rfl ho1 (j := 6) ((ofF N E)[E[k].1.toNat], (ofF N E)[E[k].2.toNat]) rfl rfl rfl rfl (by simp at cl; omega) (fun o' ho' => ?_)
      refine nw (by omega) (by omega) ?_
      exact ⟨(k + 1, o'), ⟨by dsimp only; omega, by dsimp only; rw [st, ← v1, ← v2]; exact ho'⟩, by dsimp only; omega, Ent.mk (fun _ _ h => h.pick [0, 1, 2, 3, 4, 5] rfl rfl) rfl rfl⟩
    · have heq : ¬ ofv N E E[k].1 ≠ ofv N E E[k].2 := by rw [← v1, ← v2]; exact heq
      rw [if_neg heq] at st
      refine nw (by omega) (by omega) ?_
      exact ⟨(k + 1, o1), ⟨by dsimp only; omega, by dsimp only; rw [st]; exact ho1⟩, by dsimp only; omega, Ent.mk (fun _ _ h => h.pick [0, 1, 2, 3, 4, 5] rfl rfl) rfl rfl⟩
  rw [List.take_of_length_le (by omega)] at ho1
  have hEs := OwnO.sl (f := fE) (fun _ => rfl) (by decide) ho1
  have cl := condE_len N E E
  have hE1 := hEs.len
  refine call (fun w' hm => Make_spec n' w' (hEs.mono (encF_mono _) (hm 5 _ rfl)) (by omega)) ?_
  rintro _ _ ⟨o3, rfl, rfl, ho3⟩
  intro b6
  rw [hCn, cond_rmk] at ho3
  refine ⟨[.hp o3.h, .hp o.h], ⟨o3, o, by rw [hCn, cond_rmk]; rfl, rfl, ho3, ho⟩, fun w' h => h.pick [0, 6, 4] rfl rfl⟩
theorem RSinks_spec {a : Option Addr} {n c : Nat} {E : List (Int × Int)} (N : Nat) (w : World) (hL : Sl (encF fE) 2 (Hp.whole w) a n c E) (hG : Gr N E) :
    CallsE Try.prog 51 #[gv N a n c] w (Ret w fun v cs => ∃ a' n' c' h, v = .slice a' n' c' ∧ cs = [.hp h] ∧ Sl (encS (encF fI) 1) 1 h a' n' c' (sinkF N E)) := by
  have hN := hG.hN
  refine enter (X := cx 28) (cxg _) (args := [.agg #[.int .i64 N, .slice a n c]]) [.tmp 2] Try.func51 rfl rfl rfl rfl rfl ?_
  intro b1
  refine call (fun w' hm => RComponents_spec N w' (hL.mono (encF_mono _) (hm 0 _ rfl)) hG) ?_
  rintro _ _ ⟨a', n', c', hh, rfl, rfl, hC⟩
  have hCn := hC.len
  have hcl : (compF N E).length ≤ N := compK_len N E N
  refine NeedL.mkS (Nat × Dw.Os × List Value) (fun g => [(1, .bx 1 0), (3, .v (.slice a' n' c')), (4, .v g.2.1.v), (5, .v (.int .i64 g.1))])
    (fun g => [.hp (Hp.whole w), .box b1 [.int .i64 N, .slice a n c] 35, .hp hh, .hp g.2.1.h])
    (fun g => g.1 ≤ n' ∧ OwnO fV 42 1 g.2.1 g.2.2 ∧ Rds hh g.2.2 (sinkK N E g.1)) (fun g => n' - g.1) (0, Os.nil, []) ⟨Nat.zero_le _, OwnO.nil _ _ _, Rds.nil _⟩ (Ent.mk (fun _ _ h => h.emp) rfl rfl) ?_
  rintro ⟨k, o1, vs⟩ ⟨hk, ho, hr⟩ hsat
  dsimp only at *
  refine bsplitd (fun hlt => ?_) (fun hge => ?_)
  · have hlt' : k < (compF N E).length := by omega
    have st := sinkK_succ N E k
    have sl := sinkK_len N E k
    have hvl := hr.len
    have hrow := comp_row' hlt'
    have sc := sink_closed hG hlt'
    have hp := fun (w' : World) (hm : (Hp.whole w).In w') {a1 : Option Addr} {n1 c1 : Nat} (hs : Sl (encF fI) 1 (Hp.whole w') a1 n1 c1 ((compF N E)[k]'hlt')) => RClosed_spec N w' (hL.mono (encF_mono _) hm) hs hG (fun x hx => comp_rng hlt' hx) (by omega)
    rw [sc] at hp
    refine hidD (fun q' hq' => ?_)
    refine NeedD.by_order (cxg _) (.take 0 <| .take 1 <| .take 2 <| .take 3 <| .take 4 <| .run 5 <| .done) (by kernel_rfl) ?_
    refine idx (cxg _) (e := 42) rfl hC k rfl hlt' (fun b o cs hcs hR hcell => ?_)
    obtain ⟨a1, n1, c1, rfl, hs1⟩ := hR
    refine ld1 (cxg _) (i := 2) rfl (hcell 0 _ rfl) rfl ?_
    refine callV _ (fun w' hm => hp w' (hm 0 _ rfl) (hs1.mono (encF_mono _) (hm 2 _ rfl))) ?_
    refine ⟨(by repeat first | exact trivial | refine ⟨.inl rfl, ?_⟩ | refine ⟨.inr rfl, ?_⟩), ?_⟩
    refine hq' _ _ ?_
    refine bsplit (fun hb => ?_) (fun hb => ?_)
    · refine idx (cxg _) (e := 42) rfl hC k rfl hlt' (fun b o cs hcs hR hcell => ?_)
      obtain ⟨a1, n1, c1, rfl, hs1⟩ := hR
      refine ld1 (cxg _) (i := 2) rfl (hcell 0 _ rfl) rfl ?_
      intro b5
      refine appO (f := fV) (cxg _) (e := 42) rfl (i := 3) rfl ho (j := 4) (.slice a1 n1 c1) rfl rfl rfl rfl (by omega) (fun o' ho' => ?_)
      refine nw (by omega) (by omega) ?_
      refine ⟨(k + 1, o', vs ++ [.slice a1 n1 c1]), ⟨by dsimp only; omega, ho', ?_⟩, by dsimp only; omega, Ent.mk (fun _ _ h => h.pick [0, 1, 2, 3] rfl rfl) rfl rfl⟩
      dsimp only
      rw [st, if_pos hb]
      refine hr.push ⟨_, _, _, rfl, ?_⟩
      rw [show (compF N E).getD k [] = (compF N E)[k] by simp [hlt']]
      exact hs1
    · refine nw (by omega) (by omega) ?_
      refine ⟨(k + 1, o1, vs), ⟨by dsimp only; omega, ho, ?_⟩, by dsimp only; omega, Ent.mk (fun _ _ h => h.pick [0, 1, 2, 3] rfl rfl) rfl rfl⟩
      dsimp only
      rw [st, hb]; exact hr
  · have hkn : k = (compF N E).length := by omega
    subst hkn
    refine ⟨[.hp (o1.h.join hh)], ⟨o1.a, o1.n, o1.c, _, rfl, rfl, ?_⟩, fun w' h => Ok.join (c := .hp (Hp.whole w)) (d := .hp o1.h) (e := .hp hh) (s := []) (h.pick [0, 3, 2] rfl rfl)⟩
    exact hr.sl ho (hsat.dj 3 2 rfl rfl (by decide))
end Go.Proofs.Ytdjhgcpmipglfaa
