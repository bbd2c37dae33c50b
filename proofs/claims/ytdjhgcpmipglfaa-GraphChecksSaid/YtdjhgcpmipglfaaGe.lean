/- Contracts of the graph's reversed, condense, Components. Their premises are their own. -/
import Derived.Test.YtdjhgcpmipglfaaGd
namespace Go.Proofs.Ytdjhgcpmipglfaa
open Go Go.RowKit Go.Dw

def flip (e : Int × Int) : Int × Int := (e.2, e.1)
def revF (E : List (Int × Int)) : List (Int × Int) := sortF (E.map flip)
theorem reversed_spec {a : Option Addr} {n c : Nat} {E : List (Int × Int)} (N : Int) (w : World) (hL : Sl (encF fE) 2 (Hp.whole w) a n c E) (hl : E.length < 1000000) :
    CallsE Try.prog 95 #[gv N a n c] w (Ret w fun v cs => ∃ o : Dw.Os, v = gv N o.a o.n o.c ∧ cs = [.hp o.h] ∧ OwnO fE 32 2 o (revF E)) := by
  have hlen := hL.len
  refine enter (X := cx 31) (cxg _) (args := [.agg #[.int .i64 N, .slice a n c]]) [.cell 2 26] Try.func95 rfl rfl rfl rfl rfl ?_
  intro b1 b2 b3
  refine NeedL.mk (Nat × Dw.Os) (fun g => [(2, .bx 2 0), (3, .bx 3 0), (10, .v (.slice a n c)), (11, .v (.int .i64 n)), (12, .v (.int .i64 g.1))])
    (fun g => [.hp (Hp.whole w), .box b1 [.int .i64 N, .slice a n c] 26, .box b2 [.int .i64 0, .slice none 0 0] 26, .box b3 [.int .i64 N, g.2.v] 26, .hp g.2.h])
    (fun g => g.1 ≤ n ∧ OwnO fE 32 2 g.2 ((E.take g.1).map flip)) (fun g => n - g.1) (0, Os.nil) ⟨Nat.zero_le _, OwnO.nil _ _ _⟩ (Ent.mk (fun _ _ h => h.emp) rfl rfl) ?_
  rintro ⟨k, o1⟩ ⟨hk, ho⟩
  dsimp only at *
  refine bsplitd (fun hlt => ?_) (fun hge => ?_)
  · have hlt' : k < E.length := by omega
    refine idx (cxg _) (e := 32) rfl hL k rfl hlt' (fun b1 o cs hcs hR hcell => ?_)
    subst hR
    refine ldn (cxg _) (i := 0) rfl hcell rfl ?_
    intro b4 b5
    refine appO (cxg _) (e := 32) rfl (i := 4) rfl ho (j := 6) (flip E[k]) rfl rfl rfl rfl (by simp; omega) (fun o' ho' => ?_)
    refine nw (by omega) (by omega) ?_
    exact ⟨(k + 1, o'), ⟨by dsimp only; omega, by dsimp only; rw [List.take_succ_eq_append_getElem hlt', List.map_append]; exact ho'⟩, by dsimp only; omega, Ent.mk (fun _ _ h => h.pick [0, 1, 2, 3, 4] rfl rfl) rfl rfl⟩
  rw [List.take_of_length_le (by omega)] at ho
  refine callM (i := 4) rfl (fun w' hm => sort_spec w' (hm 4 _ rfl) ho (by simpa using hl)) ?_
  rintro _ h2 _ ⟨rfl, rfl, ho2⟩
  exact ⟨[.hp h2], ⟨⟨o1.a, o1.n, o1.c, h2⟩, rfl, rfl, ho2⟩, fun w' h => h.pick [0, 4] rfl rfl⟩

/-- the class of a node -/
def ofv (N : Nat) (E : List (Int × Int)) (x : Int) : Int := (ofF N E).getD x.toNat 0
def condE (N : Nat) (E M : List (Int × Int)) : List (Int × Int) := (M.filter fun e => decide (ofv N E e.1 ≠ ofv N E e.2)).map fun e => (ofv N E e.1, ofv N E e.2)
def condR (N : Nat) (E : List (Int × Int)) : Int × List (Int × Int) × Int := makeR (compF N E).length (condE N E E)
theorem condE_step {N : Nat} {E : List (Int × Int)} {k : Nat} (hk : k < E.length) : condE N E (E.take (k + 1)) = if ofv N E E[k].1 ≠ ofv N E E[k].2 then condE N E (E.take k) ++ [(ofv N E E[k].1, ofv N E E[k].2)] else condE N E (E.take k) := by
  unfold condE
  rw [List.take_succ_eq_append_getElem hk, List.filter_append, List.map_append]
  by_cases h : ofv N E E[k].1 = ofv N E E[k].2 <;> simp [h]
theorem condE_len (N : Nat) (E M : List (Int × Int)) : (condE N E M).length ≤ M.length := by
  unfold condE; rw [List.length_map]; exact List.length_filter_le _ _
theorem condense_spec {a : Option Addr} {n c : Nat} {E : List (Int × Int)} (N : Nat) (w : World) (hL : Sl (encF fE) 2 (Hp.whole w) a n c E) (hG : Gr N E) :
    CallsE Try.prog 90 #[gv N a n c] w (Ret w fun v cs => ∃ o o2 : Dw.Os, v = .tuple #[gv (condR N E).1 o.a o.n o.c, o2.v] ∧ cs = [.hp o.h, .hp o2.h] ∧ OwnO fE 32 2 o (condR N E).2.1 ∧ OwnO fI 3 1 o2 (ofF N E)) := by
  have hlen := hL.len
  have hEl := hG.len
  refine enter (X := cx 58) (cxg _) (args := [.agg #[.int .i64 N, .slice a n c]]) [.cell 2 26, .tmp 3] Try.func90 rfl rfl rfl rfl rfl ?_
  intro b1 b2
  refine call (fun w' hm => components_spec N w' (hL.mono (encF_mono _) (hm 0 _ rfl)) hG) ?_
  rintro _ _ ⟨a', n', c', h, o2, rfl, rfl, hC, hO⟩
  have hOs := OwnO.sl (f := fI) (fun _ => rfl) (by decide) hO
  have hol : (ofF N E).length = N := by simp [ofF]
  refine NeedL.mk (Nat × Dw.Os) (fun g => [(2, .bx 2 0), (4, .v (.slice a' n' c')), (5, .v o2.v), (6, .v g.2.v), (17, .v (.slice a n c)), (18, .v (.int .i64 n)), (19, .v (.int .i64 g.1))])
    (fun g => [.hp (Hp.whole w), .box b1 [.int .i64 N, .slice a n c] 26, .box b2 [.int .i64 0, .slice none 0 0] 26, .hp h, .hp o2.h, .hp g.2.h])
    (fun g => g.1 ≤ n ∧ OwnO fE 32 2 g.2 (condE N E (E.take g.1))) (fun g => n - g.1) (0, Os.nil) ⟨Nat.zero_le _, OwnO.nil _ _ _⟩ (Ent.mk (fun _ _ h => h.emp) rfl rfl) ?_
  rintro ⟨k, o1⟩ ⟨hk, ho⟩
  dsimp only at *
  refine bsplitd (fun hlt => ?_) (fun hge => ?_)
  · have hlt' : k < E.length := by omega
    obtain ⟨r1, r2, r3, r4⟩ := hG.rng _ (List.getElem_mem hlt')
    have i1 : E[k].1.toNat < (ofF N E).length := by omega
    have i2 : E[k].2.toNat < (ofF N E).length := by omega
    have v1 : (ofF N E)[E[k].1.toNat] = ofv N E E[k].1 := by unfold ofv; simp [i1]
    have v2 : (ofF N E)[E[k].2.toNat] = ofv N E E[k].2 := by unfold ofv; simp [i2]
    have st := condE_step (N := N) hlt'
    have cl := condE_len N E (E.take k)
    refine idx (cxg _) (e := 32) rfl hL k rfl hlt' (fun b1 o cs hcs hR hcell => ?_)
    subst hR
    refine ldn (cxg _) (i := 0) rfl hcell rfl ?_
    intro b4
    refine NeedD.by_order (cxg _) (.take 0 <| .take 1 <| .take 2 <| .take 3 <| .take 4 <| .take 5 <| .take 6 <| .take 7 <| .take 8 <| .take 9 <| .take 10 <| .done) (by kernel_rfl) ?_
    refine idx (cxg _) (e := 3) rfl hOs _ (by omega) i1 (fun b1 o cs hcs hR hcell => ?_)
    subst hR
    refine ld1 (cxg _) (i := 4) rfl (hcell 0 _ rfl) rfl ?_
    refine idx (cxg _) (e := 3) rfl hOs _ (by omega) i2 (fun b1 o cs hcs hR hcell => ?_)
    subst hR
    refine ld1 (cxg _) (i := 4) rfl (hcell 0 _ rfl) rfl ?_
    refine bsplitd (fun hne => ?_) (fun heq => ?_)
    · rw [v1, v2] at hne
      rw [if_pos hne] at st
      refine NeedD.by_order0 (cxg _) (.take 0 <| .take 1 <| .take 2 <| .take 3 <| .take 4 <| .take 5 <| .take 6 <| .take 7 <| .take 8 <| .take 9 <| .take 10 <| .take 11 <| .run 12 <| .run 13 <| .run 14 <| .done) (by kernel_rfl) (subL_blank _ 5) ?_
      refine idx (cxg _) (e := 3) rfl hOs _ (by omega) i1 (fun b1 o cs hcs hR hcell => ?_)
      subst hR
      refine ld1 (cxg _) (i := 4) rfl (hcell 0 _ rfl) rfl ?_
      refine idx (cxg _) (e := 3) rfl hOs _ (by omega) i2 (fun b1 o cs hcs hR hcell => ?_)
      subst hR
      refine ld1 (cxg _) (i := 4) rfl (hcell 0 _ rfl) rfl ?_
      intro b5
      refine ⟨(by repeat first | exact trivial | refine ⟨.inl rfl, ?_⟩ | refine ⟨.inr rfl, ?_⟩), ?_⟩
      refine appO (cxg _) (e := 32) rfl (i := 5) rfl ho (j := 7) ((ofF N E)[E[k].1.toNat], (ofF N E)[E[k].2.toNat]) rfl rfl rfl rfl (by simp at cl; omega) (fun o' ho' => ⟨(by repeat first | exact trivial | refine ⟨.inl rfl, ?_⟩ | refine ⟨.inr rfl, ?_⟩), ?_⟩)
      refine nw (by omega) (by omega) ?_
      exact ⟨(k + 1, o'), ⟨by dsimp only; omega, by dsimp only; rw [st, ← v1, ← v2]; exact ho'⟩, by dsimp only; omega, Ent.mk (fun _ _ h => h.pick [0, 1, 2, 3, 4, 5] rfl rfl) rfl rfl⟩
    · have heq : ¬ ofv N E E[k].1 ≠ ofv N E E[k].2 := by rw [← v1, ← v2]; exact heq
      rw [if_neg heq] at st
      refine nw (by omega) (by omega) ?_
      exact ⟨(k + 1, o1), ⟨by dsimp only; omega, by dsimp only; rw [st]; exact ho⟩, by dsimp only; omega, Ent.mk (fun _ _ h => h.pick [0, 1, 2, 3, 4, 5] rfl rfl) rfl rfl⟩
  rw [List.take_of_length_le (by omega)] at ho
  have hEs := OwnO.sl (f := fE) (fun _ => rfl) (by decide) ho
  have cl := condE_len N E E
  refine call (fun w' hm => make_spec n' w' (hEs.mono (encF_mono _) (hm 5 _ rfl)) (by omega)) ?_
  rintro _ _ ⟨o3, rfl, rfl, ho3⟩
  intro b6
  rw [hC.len] at ho3
  refine ⟨[.hp o3.h, .hp o2.h], ⟨o3, o2, by rw [hC.len]; rfl, rfl, ho3, hO⟩, fun w' h => h.pick [0, 6, 4] rfl rfl⟩
end Go.Proofs.Ytdjhgcpmipglfaa
