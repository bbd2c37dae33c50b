/- Contracts of the reference's classes and Components. Their premises are their own. -/
import Derived.Test.YtdjhgcpmipglfaaYP8
namespace Go.Proofs.Ytdjhgcpmipglfaa
open Go Go.RowKit Go.Dw
set_option maxRecDepth 10000 in
theorem classes_spec {a : Option Addr} {c : Nat} {E : List (Int × Int)} (N : Nat) (w : World) (hT : Sl (encS (encF fI) 1) 1 (Hp.whole w) a N c (tabF N E)) (hG : Gr N E) :
    CallsE Try.prog 97 #[.slice a N c] w (Ret w fun v cs => ∃ a' n' c' h, v = .slice a' n' c' ∧ cs = [.hp h] ∧ Sl (encS (encF fI) 1) 1 h a' n' c' (compF N E)) := by
  have hN := hG.hN
  have htl : (tabF N E).length = N := by simp [tabF]
  refine enter (X := cx 51) (cxg _) (args := [.slice a N c]) [.tmp 2] Try.func97 rfl rfl rfl rfl rfl ?_
  refine NeedL.mkS (Nat × Dw.Os × List Dw.Os × Hp) (fun g => [(0, .v (.slice a N c)), (3, .v g.2.1.v), (4, .v (.int .i64 g.1))]) (fun g => [.hp (Hp.whole w), .hp g.2.1.h, .hp g.2.2.2])
    (fun g => g.1 ≤ N ∧ OwnO Os.row 42 1 g.2.1 g.2.2.1 ∧ Rws fI 3 1 g.2.2.2 g.2.2.1 (compK N E g.1)) (fun g => N - g.1) (0, Os.nil, [], Hp.emp)
    ⟨Nat.zero_le _, OwnO.nil _ _ _, Rws.nil _ _ _ _⟩ (Ent.mk (fun _ _ h => h.emp.emp) rfl rfl) ?_
  rintro ⟨k, oR, os, H⟩ ⟨hk, hoR, hr⟩ hsat
  dsimp only at *
  have hrl := hr.len
  have hcl := compK_len N E k
  have stK := compK_succ N E k
  refine bsplitd (fun hlt => ?_) (fun hge => ?_)
  · have hkN : k < N := by omega
    have hkt : k < (tabF N E).length := by omega
    refine NeedL.mkS (Nat × Dw.Os) (fun g => [(0, .v (.slice a N c)), (3, .v oR.v), (4, .v (.int .i64 k)), (5, .v g.2.v), (6, .v (.int .i64 g.1))]) (fun g => [.hp (Hp.whole w), .hp oR.h, .hp H, .hp g.2.h])
      (fun g => g.1 ≤ N ∧ OwnO fI 3 1 g.2 (clsT N E k g.1)) (fun g => N - g.1) (0, Os.nil) ⟨Nat.zero_le _, OwnO.nil _ _ _⟩ (Ent.mk (fun _ _ h => h.emp) rfl rfl) ?_
    rintro ⟨b, o⟩ ⟨hb, ho⟩ hsat2
    dsimp only at *
    have st := clsT_succ N E k b
    have hll := clsT_len N E k b
    refine bsplitd (fun hltb => ?_) (fun hgeb => ?_)
    · have hbt : b < (tabF N E).length := by omega
      have hb1 : b < ((List.range N).map fun b : Nat => dz (dst N E k b)).length := by simp; omega
      have hk1 : k < ((List.range N).map fun k : Nat => dz (dst N E b k)).length := by simp; omega
      have he := eqv_dz (N := N) (E := E) (a := k) (b := b)
      refine hideQ (fun q' hq' => ?_)
      refine idx (cxg _) (e := 42) rfl hT k rfl hkt (fun b9 o9 cs hcs hR hcell => ?_)
      obtain ⟨a3, n3, c3, rfl, hs3⟩ := hR
      rw [tabV hkt] at hs3
      refine ld1 (cxg _) (i := 0) rfl (hcell 0 _ rfl) rfl ?_
      refine idx (cxg _) (e := 3) rfl hs3 b rfl hb1 (fun b9 o9 cs hcs hR hcell => ?_)
      subst hR
      refine ld1 (cxg _) (i := 0) rfl (hcell 0 _ rfl) rfl ?_
      rw [rowV hb1]
      refine bsplitd (fun h1 => ?_) (fun h1 => ?_)
      · refine idx (cxg _) (e := 42) rfl hT b rfl hbt (fun b9 o9 cs hcs hR hcell => ?_)
        obtain ⟨a4, n4, c4, rfl, hs4⟩ := hR
        rw [tabV hbt] at hs4
        refine ld1 (cxg _) (i := 0) rfl (hcell 0 _ rfl) rfl ?_
        refine idx (cxg _) (e := 3) rfl hs4 k rfl hk1 (fun b9 o9 cs hcs hR hcell => ?_)
        subst hR
        refine ld1 (cxg _) (i := 0) rfl (hcell 0 _ rfl) rfl ?_
        rw [rowV hk1]
        refine hq' _ _ ?_
        refine bsplitd (fun h2 => ?_) (fun h2 => ?_)
        · rw [if_pos (by rw [he, decide_eq_true (by omega), decide_eq_true (by omega)]; rfl)] at st
          intro b4
          refine appO (cxg _) (e := 3) rfl (i := 3) rfl ho (j := 4) (b : Int) rfl rfl rfl rfl (by omega) (fun o' ho' => ?_)
          refine nw (by omega) (by omega) ?_
          exact ⟨(b + 1, o'), ⟨by dsimp only; omega, by dsimp only; rw [st]; exact ho'⟩, by dsimp only; omega, Ent.mk (fun _ _ h => h.pick [0, 1, 2, 3] rfl rfl) rfl rfl⟩
        · rw [if_neg (by rw [he, decide_eq_false (p := 0 ≤ dz (dst N E b k)) (by omega), Bool.and_false]; exact Bool.false_ne_true)] at st
          refine nw (by omega) (by omega) ?_
          exact ⟨(b + 1, o), ⟨by dsimp only; omega, by dsimp only; rw [st]; exact ho⟩, by dsimp only; omega, Ent.mk (fun _ _ h => h) rfl rfl⟩
      · refine hq' _ _ ?_
        rw [if_neg (by rw [he, decide_eq_false (p := 0 ≤ dz (dst N E k b)) (by omega), Bool.false_and]; exact Bool.false_ne_true)] at st
        refine nw (by omega) (by omega) ?_
        exact ⟨(b + 1, o), ⟨by dsimp only; omega, by dsimp only; rw [st]; exact ho⟩, by dsimp only; omega, Ent.mk (fun _ _ h => h) rfl rfl⟩
    · rw [show b = N by omega, clsT_end] at ho
      obtain ⟨h0, hhd⟩ := cls_head hG hkN
      refine oidx1 (cxg _) (e := 3) rfl rfl ho 0 rfl h0 fun b3 hb3 => ?_
      refine old (g := fun x : Int => .int .i64 x) (fun _ => rfl) (cxg _) (i := 3) rfl hb3 ho h0 rfl ?_
      refine bsplitd (fun h1 => ?_) (fun h1 => ?_)
      · rw [if_pos (hhd.1 h1)] at stK
        intro b4
        refine appO (f := Os.row) (cxg _) (e := 42) rfl (i := 1) rfl hoR (j := 4) o rfl rfl rfl rfl (by omega) (fun oR' hoR' => ?_)
        refine nw (by omega) (by omega) ?_
        refine ⟨(k + 1, oR', os ++ [o], H.join o.h), ⟨by dsimp only; omega, hoR', ?_⟩, by dsimp only; omega, Ent.mk (fun _ _ h => Ok.pick [0, 2, 1] rfl rfl (Ok.join (c := .hp (Hp.whole w)) (Ok.pick [0, 2, 3, 1] rfl rfl h))) rfl rfl⟩
        dsimp only
        rw [stK]
        exact hr.push ho (hsat2.dj 2 3 rfl rfl (by decide))
      · rw [if_neg (fun h => h1 (hhd.2 h))] at stK
        refine nw (by omega) (by omega) ?_
        exact ⟨(k + 1, oR, os, H), ⟨by dsimp only; omega, hoR, by dsimp only; rw [stK]; exact hr⟩, by dsimp only; omega, Ent.mk (fun _ _ h => h.pick [0, 1, 2] rfl rfl) rfl rfl⟩
  · rw [show k = N by omega, compK_end] at hr
    have hh := Rws.sl (f := fI) (fun _ => rfl) (by decide) hr hoR (hsat.dj 1 2 rfl rfl (by decide))
    exact ⟨[.hp (oR.h.join H)], ⟨oR.a, oR.n, oR.c, _, rfl, rfl, hh⟩, fun w' h => Ok.join (c := .hp (Hp.whole w)) (d := .hp oR.h) (e := .hp H) (s := []) (h.pick [0, 1, 2] rfl rfl)⟩
theorem RComponents_spec {a : Option Addr} {n c : Nat} {E : List (Int × Int)} (N : Nat) (w : World) (hL : Sl (encF fE) 2 (Hp.whole w) a n c E) (hG : Gr N E) :
    CallsE Try.prog 50 #[gv N a n c] w (Ret w fun v cs => ∃ a' n' c' h, v = .slice a' n' c' ∧ cs = [.hp h] ∧ Sl (encS (encF fI) 1) 1 h a' n' c' (compF N E)) := by
  refine enter (X := cx 6) (cxg _) (args := [.agg #[.int .i64 N, .slice a n c]]) [.tmp 2] Try.func50 rfl rfl rfl rfl rfl ?_
  intro b1
  refine call (fun w' hm => Table_spec N w' (hL.mono (encF_mono _) (hm 0 _ rfl)) hG) ?_
  rintro _ _ ⟨a2, c2, h1, rfl, rfl, hT⟩
  refine call (fun w' hm => classes_spec N w' (hT.mono (encS_mono (encF_mono _) _) (hm 2 _ rfl)) hG) ?_
  rintro _ _ ⟨a3, n3, c3, h3, rfl, rfl, hC⟩
  exact ⟨[.hp h3], ⟨a3, n3, c3, h3, rfl, rfl, hC⟩, fun w' h => h.pick [0, 3] rfl rfl⟩
end Go.Proofs.Ytdjhgcpmipglfaa
