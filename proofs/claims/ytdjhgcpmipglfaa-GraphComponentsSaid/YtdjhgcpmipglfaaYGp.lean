/- Contracts of slices.Grow and slices.Concat (edges), graph.Parts. Their premises are their own. -/
import Derived.Test.YtdjhgcpmipglfaaYGn
import Derived.Test.YtdjhgcpmipglfaaYDwl
namespace Go.Proofs.Ytdjhgcpmipglfaa
open Go Go.RowKit Go.Dw
theorem growEdges_spec (n : Nat) (w : World) (hn : n < 1000000) :
    CallsE Try.prog 109 #[.slice none 0 0, .int .i64 n] w (Ret w fun v cs => ∃ o : Dw.Os, v = o.v ∧ cs = [.hp o.h] ∧ OwnO fE 32 2 o []) := by
  refine enter (X := cx 27) (cxg _) (args := [.slice none 0 0, .int .i64 n]) [.tmp 4] Try.func109 rfl rfl rfl rfl rfl ?_
  refine capS (cxg _) (e := 32) rfl ?_
  refine nw (by omega) (by omega) ?_
  refine nwEq (y := (n : Int)) (by omega) (by omega) (by omega) ?_
  refine bsplitd (fun h => ?_) (fun h => ?_)
  · refine capS (cxg _) (e := 32) rfl ?_
    refine slT (cxg _) (e := 32) rfl 0 rfl (Nat.le_refl _) ?_
    refine appZ (cxg _) (e := 32) rfl rfl rfl n rfl (by omega) rfl (by simp only []; omega) (by simp only [maxLen]; omega) (fun b c h' ho hc => ?_)
    refine slT (cxg _) (e := 32) rfl 0 rfl (Nat.zero_le _) ?_
    exact ⟨[.hp h'], ⟨⟨some ⟨b, 0, none⟩, 0, c, h'⟩, rfl, rfl, ⟨rfl, ho⟩⟩, fun w' h => h.pick [0, 1] rfl rfl⟩
  · exact ⟨[.hp Hp.emp], ⟨Os.nil, rfl, rfl, OwnO.nil _ _ _⟩, fun w' h => (h.pick [0] rfl rfl).emp⟩
theorem flat_take_succ {α : Type} {LL : List (List α)} {k : Nat} (h : k < LL.length) : (LL.take (k + 1)).flatten = (LL.take k).flatten ++ LL[k] := by
  rw [List.take_succ_eq_append_getElem h, List.flatten_append]; simp
theorem flat_take_le {α : Type} {LL : List (List α)} (k : Nat) : (LL.take k).flatten.length ≤ LL.flatten.length := by
  have : LL.flatten = (LL.take k).flatten ++ (LL.drop k).flatten := by rw [← List.flatten_append, List.take_append_drop]
  rw [this, List.length_append]; omega
theorem concatEdges_spec {a : Option Addr} {n c : Nat} {LL : List (List (Int × Int))} (w : World) (hL : Sl (encS (encF fE) 2) 1 (Hp.whole w) a n c LL) (hn : n < 1000000) (hl : LL.flatten.length < 1000000) :
    CallsE Try.prog 94 #[.slice a n c] w (Ret w fun v cs => ∃ o : Dw.Os, v = o.v ∧ cs = [.hp o.h] ∧ OwnO fE 32 2 o LL.flatten) := by
  have hlen := hL.len
  refine enter (X := cx 36) (cxg _) (args := [.slice a n c]) [.tmp 2] Try.func94 rfl rfl rfl rfl rfl ?_
  refine NeedL.mk Nat (fun k => [(0, .v (.slice a n c)), (3, .v (.int .i64 ((LL.take k).flatten.length : Nat))), (9, .v (.slice a n c)), (10, .v (.int .i64 n)), (11, .v (.int .i64 k))]) (fun _ => [.hp (Hp.whole w)])
    (fun k => k ≤ n) (fun k => n - k) 0 (Nat.zero_le _) (Ent.mk (fun _ _ h => h) rfl rfl) ?_
  rintro k hk
  have hfl := flat_take_le (LL := LL) k
  refine bsplitd (fun hlt => ?_) (fun hge => ?_)
  · have hlt' : k < LL.length := by omega
    have hfl' := flat_take_le (LL := LL) (k + 1)
    have hst := flat_take_succ hlt'
    rw [hst, List.length_append] at hfl'
    refine idx (cxg _) (e := 22) rfl hL k rfl hlt' (fun b o cs hcs hR hcell => ?_)
    obtain ⟨a1, n1, c1, rfl, hs⟩ := hR
    have hs1 := hs.len
    refine ld1 (cxg _) (i := 0) rfl (hcell 0 _ rfl) rfl ?_
    refine nw (by omega) (by omega) ?_
    refine nw (by omega) (by omega) ?_
    exact ⟨k + 1, by omega, by omega, Ent.mk (fun _ _ h => h) (by rw [hst, List.length_append, ← hs1]; rfl) rfl⟩
  rw [List.take_of_length_le (by omega)] at *
  refine call (fun w' hm => growEdges_spec LL.flatten.length w' (by omega)) ?_
  rintro _ _ ⟨o1, rfl, rfl, ho1⟩
  refine NeedL.mk (Nat × Dw.Os) (fun g => [(6, .v g.2.v), (25, .v (.slice a n c)), (26, .v (.int .i64 n)), (27, .v (.int .i64 g.1))]) (fun g => [.hp (Hp.whole w), .hp g.2.h])
    (fun g => g.1 ≤ n ∧ OwnO fE 32 2 g.2 ((LL.take g.1).flatten)) (fun g => n - g.1) (0, o1) ⟨Nat.zero_le _, ho1⟩ (Ent.mk (fun _ _ h => h) rfl rfl) ?_
  rintro ⟨k, o2⟩ ⟨hk, ho2⟩
  dsimp only at *
  refine bsplitd (fun hlt => ?_) (fun hge => ?_)
  · have hlt' : k < LL.length := by omega
    have hfl' := flat_take_le (LL := LL) (k + 1)
    have hst := flat_take_succ hlt'
    rw [hst, List.length_append] at hfl'
    refine idx (cxg _) (e := 22) rfl hL k rfl hlt' (fun b o cs hcs hR hcell => ?_)
    obtain ⟨a1, n1, c1, rfl, hs⟩ := hR
    refine ld1 (cxg _) (i := 0) rfl (hcell 0 _ rfl) rfl ?_
    refine appS (cxg _) (e := 32) rfl (fun _ => rfl) (fun _ => rfl) (i := 1) rfl ho2 (k := 0) rfl hs rfl (by omega) (fun o' ho' _ => ?_)
    refine nw (by omega) (by omega) ?_
    exact ⟨(k + 1, o'), ⟨by dsimp only; omega, by dsimp only; rw [hst]; exact ho'⟩, by dsimp only; omega, Ent.mk (fun _ _ h => h) rfl rfl⟩
  · rw [List.take_of_length_le (by omega)] at ho2
    exact ⟨[.hp o2.h], ⟨o2, rfl, rfl, ho2⟩, fun w' h => h⟩
/-- the edges, and back again -/
def bothE (_N : Nat) (E : List (Int × Int)) : List (Int × Int) := dd (sortF (E ++ revF E))
theorem both_make {N : Nat} {E : List (Int × Int)} (hG : Gr N E) : makeR N (E ++ revF E) = ((N : Int), bothE N E, 0) := by
  have hN := hG.hN
  unfold makeR bothE
  rw [if_neg (by omega), if_neg]
  rw [Bool.not_eq_true, List.any_eq_false]
  intro e he
  have h : ∀ e ∈ E, ¬ outF N e = true := fun e he => by
    have := hG.rng e he
    simp [outF, beyondF]; omega
  rcases List.mem_append.1 he with he | he
  · exact h e he
  · have := (revF_gr hG).rng e he
    simp [outF, beyondF]; omega
theorem both_gr {N : Nat} {E : List (Int × Int)} (hG : Gr N E) (hl : E.length ≤ 5000) : Gr N (bothE N E) := by
  refine ⟨hG.hN, fun e he => ?_, ?_⟩
  · unfold bothE at he
    have he := sortF_mem.1 (dd_sub he)
    rcases List.mem_append.1 he with he | he
    · exact hG.rng e he
    · exact (revF_gr hG).rng e he
  · unfold bothE
    refine Nat.le_trans (dd_len _) ?_
    rw [sortF_len, List.length_append]
    unfold revF
    rw [sortF_len, List.length_map]; omega
theorem two_rows {α : Type} {R : Enc α} {sz : Nat} {H : Hp} {a a' : Option Addr} {n c n' c' : Nat} {A B : List α} (hA : Sl R sz H a n c A) (hB : Sl R sz H a' n' c' B) : ∀ (i : Nat) v L, ([.slice a n c, .slice a' n' c'] : List Value)[i]? = some v → [A, B][i]? = some L → encS R sz H L [v]
  | 0, v, L, h1, h2 => by cases h1; cases h2; exact ⟨a, n, c, rfl, hA⟩
  | 1, v, L, h1, h2 => by cases h1; cases h2; exact ⟨a', n', c', rfl, hB⟩
  | i + 2, v, L, h1, h2 => by simp at h1
def parR (N : Int) (E : List (Int × Int)) : List (List Int) := if checkF N E = 0 then compF N.toNat (bothE N.toNat E) else []
theorem Parts_spec {a : Option Addr} {n c : Nat} {E : List (Int × Int)} (N : Int) (w : World) (hL : Sl (encF fE) 2 (Hp.whole w) a n c E) (hl : E.length ≤ 5000) :
    CallsE Try.prog 47 #[gv N a n c] w (RetR w (parR N E) (checkF N E)) := by
  have hlen := hL.len
  refine enter (X := cx 33) (cxg _) (args := [.agg #[.int .i64 N, .slice a n c]]) [.tmp 2, .tmp 3] Try.func47 rfl rfl rfl rfl rfl ?_
  intro b1
  refine callV _ (fun w' hm => check_spec N w' (hL.mono (encF_mono _) (hm 0 _ rfl))) ?_
  refine bsplitd (fun h => ?_) (fun h => ?_)
  · refine ⟨[.hp Hp.emp], ⟨none, 0, 0, Hp.emp, rfl, rfl, ?_⟩, fun w' h => (h.pick [0] rfl rfl).emp⟩
    rw [parR, if_neg h]; exact Sl.nil _ _ _ _ _
  have h : checkF N E = 0 := Decidable.not_not.1 h
  obtain ⟨M, rfl, hG, _⟩ := checkF_ok h
  rw [h]
  have hrl : (revF E).length = E.length := by unfold revF; rw [sortF_len, List.length_map]
  have kR : ∀ {a : Option Addr} {n c : Nat} (w : World), Sl (encF fE) 2 (Hp.whole w) a n c E → CallsE Try.prog 95 #[gv M a n c] w (Ret w fun v cs => ∃ o : Dw.Os, v = gv M o.a o.n o.c ∧ cs = [.hp o.h] ∧ OwnO fE 32 2 o (revF E)) := fun w h => reversed_spec M w h (by omega)
  have kC : ∀ {a : Option Addr} {c : Nat} (w : World), Sl (encS (encF fE) 2) 1 (Hp.whole w) a 2 c [E, revF E] → CallsE Try.prog 94 #[.slice a 2 c] w (Ret w fun v cs => ∃ o : Dw.Os, v = o.v ∧ cs = [.hp o.h] ∧ OwnO fE 32 2 o (E ++ revF E)) := fun w h => by
    have := concatEdges_spec w h (by omega) (by simp [hrl]; omega)
    simpa using this
  have kM : ∀ {a : Option Addr} {n c : Nat} (w : World), Sl (encF fE) 2 (Hp.whole w) a n c (E ++ revF E) → CallsE Try.prog 16 #[.int .i64 M, .slice a n c] w (RetG w ((M : Int), bothE M E, 0)) := fun w h => by
    have := make_spec M w h (by simp [hrl]; omega)
    rw [both_make hG] at this; exact this
  refine nrmD [.hp (Hp.whole w), .box b1 [.int .i64 M, .slice a n c] 26] rfl ?_
  refine NeedD.cut (Nat × Dw.Os) (fun g => [(5, .bx 1 0)]) (fun g => [.hp (Hp.whole w), .box g.1 [.int .i64 M, .slice g.2.a g.2.n g.2.c] 26, .hp g.2.h]) (fun g => OwnO fE 32 2 g.2 (bothE M E)) (NeedD.by_order (cxg _) (.take 0 <| .take 1 <| .take 2 <| .take 3 <| .take 4 <| .two 5 (.take 6 <| .two 7 (.two 8 (.two 9 (.take 10 <| .take 11 <| .take 12 <| .run 13 <| .run 14 <| .run 15 <| .done) 13 (.run 9 <| .take 10 <| .take 11 <| .take 12 <| .run 14 <| .run 15 <| .done)) 13 (.run 8 <| .run 9 <| .take 10 <| .take 11 <| .take 12 <| .run 14 <| .run 15 <| .done)) 13 (.run 7 <| .run 8 <| .run 9 <| .take 10 <| .take 11 <| .take 12 <| .run 14 <| .run 15 <| .done)) 13 (.run 5 <| .take 6 <| .run 7 <| .run 8 <| .run 9 <| .take 10 <| .take 11 <| .take 12 <| .run 14 <| .run 15 <| .done)) (by kernel_rfl) ?_) ?_
  · constructor
    · refine call (fun w' hm => kR w' (hL.mono (encF_mono _) (hm 0 _ rfl))) ?_
      rintro _ _ ⟨oR, rfl, rfl, hoR⟩
      have sR := OwnO.sl (f := fE) (fun _ => rfl) (by decide) hoR
      refine ⟨(by repeat first | exact trivial | refine ⟨.inl rfl, ?_⟩ | refine ⟨.inr rfl, ?_⟩), ?_⟩
      constructor
      · intro b7
        refine ⟨(by repeat first | exact trivial | refine ⟨.inl rfl, ?_⟩ | refine ⟨.inr rfl, ?_⟩), ?_⟩
        constructor
        · refine call (fun w' hm => kC w' (Sl.boxG (R := encF fE) (sz := 2) (hm 3 _ rfl) (LL := [E, revF E]) rfl (two_rows (hL.mono (encF_mono _) (hm 0 _ rfl)) (sR.mono (encF_mono _) (hm 2 _ rfl))) rfl)) ?_
          rintro _ _ ⟨oC, rfl, rfl, hoC⟩
          have sC := OwnO.sl (f := fE) (fun _ => rfl) (by decide) hoC
          refine ⟨(by repeat first | exact trivial | refine ⟨.inl rfl, ?_⟩ | refine ⟨.inr rfl, ?_⟩), ?_⟩
          constructor
          · refine call (fun w' hm => kM w' (sC.mono (encF_mono _) (hm 4 _ rfl))) ?_
            rintro _ _ ⟨oM, rfl, rfl, hoM⟩
            refine ⟨(by repeat first | exact trivial | refine ⟨.inl rfl, ?_⟩ | refine ⟨.inr rfl, ?_⟩), ?_⟩
            intro b13
            refine ⟨(by repeat first | exact trivial | refine ⟨.inl rfl, ?_⟩ | refine ⟨.inr rfl, ?_⟩), ?_⟩
            refine ⟨(by repeat first | exact trivial | refine ⟨.inl rfl, ?_⟩ | refine ⟨.inr rfl, ?_⟩), ?_⟩
            exact ⟨(b13, oM), hoM, Ent.mk (fun _ _ h => h.pick [0, 6, 5] rfl rfl) rfl rfl⟩
          · intro b13
            refine ⟨(by repeat first | exact trivial | refine ⟨.inl rfl, ?_⟩ | refine ⟨.inr rfl, ?_⟩), ?_⟩
            refine call (fun w' hm => kM w' (sC.mono (encF_mono _) (hm 4 _ rfl))) ?_
            rintro _ _ ⟨oM, rfl, rfl, hoM⟩
            refine ⟨(by repeat first | exact trivial | refine ⟨.inl rfl, ?_⟩ | refine ⟨.inr rfl, ?_⟩), ?_⟩
            refine ⟨(by repeat first | exact trivial | refine ⟨.inl rfl, ?_⟩ | refine ⟨.inr rfl, ?_⟩), ?_⟩
            exact ⟨(b13, oM), hoM, Ent.mk (fun _ _ h => h.pick [0, 5, 6] rfl rfl) rfl rfl⟩
        · intro b13
          refine ⟨(by repeat first | exact trivial | refine ⟨.inl rfl, ?_⟩ | refine ⟨.inr rfl, ?_⟩), ?_⟩
          refine call (fun w' hm => kC w' (Sl.boxG (R := encF fE) (sz := 2) (hm 3 _ rfl) (LL := [E, revF E]) rfl (two_rows (hL.mono (encF_mono _) (hm 0 _ rfl)) (sR.mono (encF_mono _) (hm 2 _ rfl))) rfl)) ?_
          rintro _ _ ⟨oC, rfl, rfl, hoC⟩
          have sC := OwnO.sl (f := fE) (fun _ => rfl) (by decide) hoC
          refine ⟨(by repeat first | exact trivial | refine ⟨.inl rfl, ?_⟩ | refine ⟨.inr rfl, ?_⟩), ?_⟩
          refine call (fun w' hm => kM w' (sC.mono (encF_mono _) (hm 5 _ rfl))) ?_
          rintro _ _ ⟨oM, rfl, rfl, hoM⟩
          refine ⟨(by repeat first | exact trivial | refine ⟨.inl rfl, ?_⟩ | refine ⟨.inr rfl, ?_⟩), ?_⟩
          refine ⟨(by repeat first | exact trivial | refine ⟨.inl rfl, ?_⟩ | refine ⟨.inr rfl, ?_⟩), ?_⟩
          exact ⟨(b13, oM), hoM, Ent.mk (fun _ _ h => h.pick [0, 4, 6] rfl rfl) rfl rfl⟩
      · intro b13
        refine ⟨(by repeat first | exact trivial | refine ⟨.inl rfl, ?_⟩ | refine ⟨.inr rfl, ?_⟩), ?_⟩
        intro b7
        refine ⟨(by repeat first | exact trivial | refine ⟨.inl rfl, ?_⟩ | refine ⟨.inr rfl, ?_⟩), ?_⟩
        refine call (fun w' hm => kC w' (Sl.boxG (R := encF fE) (sz := 2) (hm 4 _ rfl) (LL := [E, revF E]) rfl (two_rows (hL.mono (encF_mono _) (hm 0 _ rfl)) (sR.mono (encF_mono _) (hm 2 _ rfl))) rfl)) ?_
        rintro _ _ ⟨oC, rfl, rfl, hoC⟩
        have sC := OwnO.sl (f := fE) (fun _ => rfl) (by decide) hoC
        refine ⟨(by repeat first | exact trivial | refine ⟨.inl rfl, ?_⟩ | refine ⟨.inr rfl, ?_⟩), ?_⟩
        refine call (fun w' hm => kM w' (sC.mono (encF_mono _) (hm 5 _ rfl))) ?_
        rintro _ _ ⟨oM, rfl, rfl, hoM⟩
        refine ⟨(by repeat first | exact trivial | refine ⟨.inl rfl, ?_⟩ | refine ⟨.inr rfl, ?_⟩), ?_⟩
        refine ⟨(by repeat first | exact trivial | refine ⟨.inl rfl, ?_⟩ | refine ⟨.inr rfl, ?_⟩), ?_⟩
        exact ⟨(b13, oM), hoM, Ent.mk (fun _ _ h => h.pick [0, 3, 6] rfl rfl) rfl rfl⟩
    · intro b13
      refine ⟨(by repeat first | exact trivial | refine ⟨.inl rfl, ?_⟩ | refine ⟨.inr rfl, ?_⟩), ?_⟩
      refine call (fun w' hm => kR w' (hL.mono (encF_mono _) (hm 0 _ rfl))) ?_
      rintro _ _ ⟨oR, rfl, rfl, hoR⟩
      have sR := OwnO.sl (f := fE) (fun _ => rfl) (by decide) hoR
      refine ⟨(by repeat first | exact trivial | refine ⟨.inl rfl, ?_⟩ | refine ⟨.inr rfl, ?_⟩), ?_⟩
      intro b7
      refine ⟨(by repeat first | exact trivial | refine ⟨.inl rfl, ?_⟩ | refine ⟨.inr rfl, ?_⟩), ?_⟩
      refine call (fun w' hm => kC w' (Sl.boxG (R := encF fE) (sz := 2) (hm 4 _ rfl) (LL := [E, revF E]) rfl (two_rows (hL.mono (encF_mono _) (hm 0 _ rfl)) (sR.mono (encF_mono _) (hm 3 _ rfl))) rfl)) ?_
      rintro _ _ ⟨oC, rfl, rfl, hoC⟩
      have sC := OwnO.sl (f := fE) (fun _ => rfl) (by decide) hoC
      refine ⟨(by repeat first | exact trivial | refine ⟨.inl rfl, ?_⟩ | refine ⟨.inr rfl, ?_⟩), ?_⟩
      refine call (fun w' hm => kM w' (sC.mono (encF_mono _) (hm 5 _ rfl))) ?_
      rintro _ _ ⟨oM, rfl, rfl, hoM⟩
      refine ⟨(by repeat first | exact trivial | refine ⟨.inl rfl, ?_⟩ | refine ⟨.inr rfl, ?_⟩), ?_⟩
      refine ⟨(by repeat first | exact trivial | refine ⟨.inl rfl, ?_⟩ | refine ⟨.inr rfl, ?_⟩), ?_⟩
      exact ⟨(b13, oM), hoM, Ent.mk (fun _ _ h => h.pick [0, 2, 6] rfl rfl) rfl rfl⟩

  · rintro ⟨b13, oM⟩ hoM -
    dsimp only at *
    have sM := OwnO.sl (f := fE) (fun _ => rfl) (by decide) hoM
    refine call (fun w' hm => components_spec M w' (sM.mono (encF_mono _) (hm 2 _ rfl)) (both_gr hG hl)) ?_
    rintro _ _ ⟨a', n', c', hh, o2, rfl, rfl, hC, hO⟩
    refine ⟨[.hp hh], ⟨a', n', c', hh, rfl, rfl, ?_⟩, fun w' h => h.pick [0, 3] rfl rfl⟩
    rw [parR, if_pos h]; exact hC
end Go.Proofs.Ytdjhgcpmipglfaa
