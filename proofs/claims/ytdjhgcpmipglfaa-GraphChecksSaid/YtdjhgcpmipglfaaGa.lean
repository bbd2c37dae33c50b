/- Contract of the graph's components. Its premises are its own. -/
import Derived.Test.YtdjhgcpmipglfaaG9
namespace Go.Proofs.Ytdjhgcpmipglfaa
open Go Go.RowKit Go.Dw

def minK (N k : Nat) : List Int := (List.range N).map fun i => if i < k then -1 else 0
theorem minK_succ (N k : Nat) : minK N (k + 1) = (minK N k).set k (-1) := by
  apply List.ext_getElem
  · simp [minK]
  · intro i h1 h2
    rw [List.getElem_set]
    simp only [minK, List.getElem_map, List.getElem_range]
    by_cases h : k = i
    · subst h; simp
    · rw [if_neg h]
      by_cases h3 : i < k
      · rw [if_pos h3, if_pos (by omega)]
      · rw [if_neg h3, if_neg (by omega)]
theorem minK_zero (N : Nat) : minK N 0 = List.replicate N 0 := by
  apply List.ext_getElem
  · simp [minK]
  · intro i h1 h2; simp [minK]
theorem minK_end (N : Nat) : minK N N = List.replicate N (-1) := by
  apply List.ext_getElem
  · simp [minK]
  · intro i h1 h2
    have : i < N := by simpa using h2
    simp [minK, this]

theorem components_spec {a : Option Addr} {n c : Nat} {E : List (Int × Int)} (N : Nat) (w : World) (hL : Sl (encF fE) 2 (Hp.whole w) a n c E) (hG : Gr N E) :
    CallsE Try.prog 89 #[gv N a n c] w (Ret w fun v cs => ∃ a' n' c' h o, v = .tuple #[.slice a' n' c', o.v] ∧ cs = [.hp h, .hp o.h] ∧ Sl (encS (encF fI) 1) 1 h a' n' c' (compF N E) ∧ OwnO fI 3 1 o (ofF N E)) := by
  have hN := hG.hN
  refine enter (X := cx 74) (cxg _) (args := [.agg #[.int .i64 N, .slice a n c]]) [.tmp 2, .tmp 3] Try.func89 rfl rfl rfl rfl rfl ?_
  intro b
  refine NeedD.cut (Option Addr × Nat × Hp × Dw.Os) (fun g => [(1, .bx 1 0), (4, .v (.slice g.1 N g.2.1)), (5, .v g.2.2.2.v)]) (fun g => [.hp (Hp.whole w), .box b [.int .i64 N, .slice a n c] 26, .hp g.2.2.1, .hp g.2.2.2.h])
    (fun g => Sl (encS (encF fB) 1) 1 g.2.2.1 g.1 N g.2.1 (cloF N E) ∧ g.2.2.2.n = N ∧ OwnO fI 3 1 g.2.2.2 (List.replicate N 0)) (NeedD.by_order (cxg _) (.take 0 <| .take 2 <| .take 3 <| .two 1 (.take 5 <| .run 4 <| .take 6 <| .done) 4 (.run 1 <| .take 5 <| .take 6 <| .done)) (by kernel_rfl) ?_) ?_
  · constructor
    · refine call (fun w' hm => closure_spec N w' (hL.mono (encF_mono _) (hm 0 _ rfl)) hG) ?_
      rintro _ _ ⟨a', c', h, rfl, rfl, hs⟩
      refine ⟨(by repeat first | exact trivial | refine ⟨.inl rfl, ?_⟩ | refine ⟨.inr rfl, ?_⟩), ?_⟩
      refine mkO (f := fI) (cxg _) (e := 3) rfl N 0 rfl rfl rfl rfl (by omega) fun o ho' ho => ?_
      refine ⟨(by repeat first | exact trivial | refine ⟨.inl rfl, ?_⟩ | refine ⟨.inr rfl, ?_⟩), ?_⟩
      exact ⟨(a', c', h, o), ⟨hs, ho', ho⟩, Ent.mk (fun _ _ h => h) rfl rfl⟩
    · refine mkO (f := fI) (cxg _) (e := 3) rfl N 0 rfl rfl rfl rfl (by omega) fun o ho' ho => ?_
      refine ⟨(by repeat first | exact trivial | refine ⟨.inl rfl, ?_⟩ | refine ⟨.inr rfl, ?_⟩), ?_⟩
      refine call (fun w' hm => closure_spec N w' (hL.mono (encF_mono _) (hm 0 _ rfl)) hG) ?_
      rintro _ _ ⟨a', c', h, rfl, rfl, hs⟩
      refine ⟨(by repeat first | exact trivial | refine ⟨.inl rfl, ?_⟩ | refine ⟨.inr rfl, ?_⟩), ?_⟩
      exact ⟨(a', c', h, o), ⟨hs, ho', ho⟩, Ent.mk (fun _ _ h => h.pick [0, 1, 3, 2] rfl rfl) rfl rfl⟩
  rintro ⟨a2, c2, hx, o0⟩ ⟨hX, hon0, ho0⟩ _
  dsimp only at *
  refine NeedL.mk (Nat × Dw.Os) (fun g => [(1, .bx 1 0), (4, .v (.slice a2 N c2)), (5, .v g.2.v), (17, .v (.int .i64 N)), (18, .v (.int .i64 g.1))]) (fun g => [.hp (Hp.whole w), .box b [.int .i64 N, .slice a n c] 26, .hp hx, .hp g.2.h])
    (fun g => g.1 ≤ N ∧ g.2.n = N ∧ OwnO fI 3 1 g.2 (minK N g.1)) (fun g => N - g.1) (0, o0) ⟨Nat.zero_le _, hon0, by dsimp only; rw [minK_zero]; exact ho0⟩ (Ent.mk (fun _ _ h => h) (by rw [← hon0]; rfl) rfl) ?_
  rintro ⟨k, o⟩ ⟨hk, hon, ho⟩
  dsimp only at *
  refine bsplitd (fun hlt => ?_) (fun hge => ?_)
  · have hko : k < (minK N k).length := by simp [minK]; omega
    refine oidx1 (cxg _) (e := 3) rfl rfl ho k rfl hko fun b3 hb3 => ?_
    refine osto (g := fun x : Int => .int .i64 x) (fun _ => rfl) (cxg _) (i := 3) rfl hb3 ho hko rfl rfl (-1) rfl rfl rfl fun o3 e1 e2 e3 ho3 => ?_
    refine nw (by omega) (by omega) ?_
    exact ⟨(k + 1, o3), ⟨by dsimp only; omega, by dsimp only; omega, by dsimp only; rw [minK_succ]; exact ho3⟩, by dsimp only; omega, Ent.mk (fun _ _ h => h) (by dsimp only [Os.v]; rw [e1, e2, e3]; rfl) rfl⟩
  rw [show k = N by omega, minK_end, ← ofL_zero N E] at ho
  refine NeedL.mkS (Nat × Dw.Os × Dw.Os × List Dw.Os × Hp) (fun g => [(1, .bx 1 0), (4, .v (.slice a2 N c2)), (5, .v g.2.1.v), (7, .v g.2.2.1.v), (26, .v (.int .i64 N)), (27, .v (.int .i64 g.1))])
    (fun g => [.hp (Hp.whole w), .box b [.int .i64 N, .slice a n c] 26, .hp hx, .hp g.2.1.h, .hp g.2.2.1.h, .hp g.2.2.2.2])
    (fun g => g.1 ≤ N ∧ g.2.1.n = N ∧ OwnO fI 3 1 g.2.1 (ofL N E g.1) ∧ OwnO Os.row 42 1 g.2.2.1 g.2.2.2.1 ∧ Rws fI 3 1 g.2.2.2.2 g.2.2.2.1 ((reps N E g.1).map (cls N E))) (fun g => N - g.1) (0, o, Os.nil, [], Hp.emp)
    ⟨Nat.zero_le _, hon, ho, OwnO.nil _ _ _, Rws.nil _ _ _ _⟩ (Ent.mk (fun _ _ h => h.emp.emp) (by rw [← hon]; rfl) rfl) ?_
  clear hk hon ho hge k o
  rintro ⟨k, oO, oR, os, H⟩ ⟨hk, hon, hoO, hoR, hr⟩ hsat
  dsimp only at *
  refine bsplitd (fun hlt => ?_) (fun hge => ?_)
  · have hkN : k < N := by omega
    have hko : k < (ofL N E k).length := by simp [ofL]; omega
    have hkc : k < (cloF N E).length := by simp [cloF]; omega
    refine oidx1 (cxg _) (e := 3) rfl rfl hoO k rfl hko fun b3 hb3 => ?_
    refine old (g := fun x : Int => .int .i64 x) (fun _ => rfl) (cxg _) (i := 3) rfl hb3 hoO hko rfl ?_
    have hok : (ofL N E k)[k] = ofK N E k k := by simp [ofL]
    refine bsplitd (fun hge => ?_) (fun hneg => ?_)
    · refine nw (by omega) (by omega) ?_
      have hl : isLeast N E k = false := by
        cases h : isLeast N E k with
        | false => rfl
        | true => have := (ofK_self hG hkN).2 h; omega
      refine ⟨(k + 1, oO, oR, os, H), ⟨by dsimp only; omega, hon, ?_, hoR, ?_⟩, by dsimp only; omega, Ent.mk (fun _ _ h => h) rfl rfl⟩
      · dsimp only; rw [ofL_next hl]; exact hoO
      · dsimp only; rw [reps_succ, hl]; simpa using hr
    have hl : isLeast N E k = true := (ofK_self hG hkN).1 (by omega)
    have hrl : os.length = (reps N E k).length := by rw [hr.len]; simp
    have hRn : oR.n = (reps N E k).length := by rw [hoR.len, hrl]
    have hrk := reps_len N E k
    refine NeedL.mkS (Nat × Dw.Os × Dw.Os) (fun g => [(1, .bx 1 0), (4, .v (.slice a2 N c2)), (5, .v g.2.1.v), (7, .v oR.v), (8, .v (.int .i64 k)), (9, .v g.2.2.v), (10, .v (.int .i64 g.1)), (26, .v (.int .i64 N)), (27, .v (.int .i64 k))])
      (fun g => [.hp (Hp.whole w), .box b [.int .i64 N, .slice a n c] 26, .hp hx, .hp g.2.1.h, .hp oR.h, .hp H, .hp g.2.2.h])
      (fun g => k ≤ g.1 ∧ g.1 ≤ N ∧ g.2.1.n = N ∧ OwnO fI 3 1 g.2.1 (ofLM N E k g.1) ∧ OwnO fI 3 1 g.2.2 (clsM N E k g.1)) (fun g => N - g.1) (k, oO, Os.nil)
      ⟨Nat.le_refl _, hk, hon, by dsimp only; rw [ofLM_start]; exact hoO, by dsimp only; rw [clsM_start]; exact OwnO.nil _ _ _⟩ (Ent.mk (fun _ _ h => h.emp) rfl rfl) ?_
    clear hon hoO hko hneg hok b3 hb3
    rintro ⟨j, oO, oL⟩ ⟨hkj, hj, hon, hoO, hoL⟩ hsat2
    dsimp only at *
    have hcl := clsM_len N E k j
    refine bsplitd (fun hlt => ?_) (fun hge => ?_)
    · have hjN : j < N := by omega
      have hjc : j < (cloF N E).length := by simp [cloF]; omega
      have hjo : j < (ofLM N E k j).length := by simp [ofLM]; omega
      have s1 := clsM_succ N E hkj
      have s2 := ofLM_step (E := E) (N := N) hkj
      refine idx (cxg _) (e := 101) rfl hX k rfl hkc (fun b1 o1 cs hcs hR hcell => ?_)
      obtain ⟨a3, n3, c3, rfl, hs3⟩ := hR
      refine ld1 (cxg _) (i := 2) rfl (hcell 0 _ rfl) rfl ?_
      have hj3 : j < ((cloF N E)[k]).length := by simp [cloF, rchL]; omega
      refine idx (cxg _) (e := 4) rfl hs3 j rfl hj3 (fun b1 o1 cs hcs hR hcell => ?_)
      subst hR
      refine ld1 (cxg _) (i := 2) rfl (hcell 0 _ rfl) rfl ?_
      have e1 := rchL_get hkc hj3
      refine bsplit (fun hb1 => ?_) (fun hb1 => ?_)
      · refine idx (cxg _) (e := 101) rfl hX j rfl hjc (fun b1 o1 cs hcs hR hcell => ?_)
        obtain ⟨a4, n4, c4, rfl, hs4⟩ := hR
        refine ld1 (cxg _) (i := 2) rfl (hcell 0 _ rfl) rfl ?_
        have hk4 : k < ((cloF N E)[j]).length := by simp [cloF, rchL]; omega
        refine idx (cxg _) (e := 4) rfl hs4 k rfl hk4 (fun b1 o1 cs hcs hR hcell => ?_)
        subst hR
        refine ld1 (cxg _) (i := 2) rfl (hcell 0 _ rfl) rfl ?_
        have e2 := rchL_get hjc hk4
        refine bsplit (fun hb2 => ?_) (fun hb2 => ?_)
        · have hm : eqv N E k j = true := by unfold eqv; rw [← e1, ← e2, hb1, hb2]; rfl
          refine oidx1 (cxg _) (e := 3) rfl rfl hoO j rfl hjo fun b3 hb3 => ?_
          refine osto (g := fun x : Int => .int .i64 x) (fun _ => rfl) (cxg _) (i := 3) rfl hb3 hoO hjo rfl rfl ((reps N E k).length : Int) (by rw [hRn]) rfl rfl fun o3 e1 e2 e3 ho3 => ?_
          intro b4
          refine appO (cxg _) (e := 3) rfl (i := 6) rfl hoL (j := 7) (j : Int) rfl rfl rfl rfl (by omega) (fun oL' hoL' => ?_)
          refine nw (by omega) (by omega) ?_
          exact ⟨(j + 1, o3, oL'), ⟨by dsimp only; omega, by dsimp only; omega, by dsimp only; omega, by dsimp only; rw [s2, if_pos hm]; exact ho3, by dsimp only; rw [s1, if_pos hm]; exact hoL'⟩, by dsimp only; omega,
            Ent.mk (fun _ _ h => h.pick [0, 1, 2, 3, 4, 5, 6] rfl rfl) (by dsimp only [Os.v]; rw [e1, e2, e3]; rfl) rfl⟩
        · have hm : ¬ eqv N E k j = true := by unfold eqv; rw [← e1, ← e2, hb1, hb2]; simp
          refine nw (by omega) (by omega) ?_
          exact ⟨(j + 1, oO, oL), ⟨by dsimp only; omega, by dsimp only; omega, hon, by dsimp only; rw [s2, if_neg hm]; exact hoO, by dsimp only; rw [s1, if_neg hm]; exact hoL⟩, by dsimp only; omega, Ent.mk (fun _ _ h => h) rfl rfl⟩
      · have hm : ¬ eqv N E k j = true := by unfold eqv; rw [← e1, hb1]; simp
        refine nw (by omega) (by omega) ?_
        exact ⟨(j + 1, oO, oL), ⟨by dsimp only; omega, by dsimp only; omega, hon, by dsimp only; rw [s2, if_neg hm]; exact hoO, by dsimp only; rw [s1, if_neg hm]; exact hoL⟩, by dsimp only; omega, Ent.mk (fun _ _ h => h) rfl rfl⟩
    · rw [show j = N by omega, ofLM_end hG hkN hl] at hoO
      rw [show j = N by omega, clsM_end hl] at hoL
      intro b4
      refine appO (f := Os.row) (cxg _) (e := 42) rfl (i := 4) rfl hoR (j := 7) oL rfl rfl rfl rfl (by omega) (fun oR' hoR' => ?_)
      refine nw (by omega) (by omega) ?_
      refine ⟨(k + 1, oO, oR', os ++ [oL], H.join oL.h), ⟨by dsimp only; omega, hon, hoO, hoR', ?_⟩, by dsimp only; omega, Ent.mk (fun _ _ h => Ok.pick [0, 2, 3, 4, 5, 1] rfl rfl (Ok.join (c := .hp (Hp.whole w)) (Ok.pick [0, 5, 6, 1, 2, 3, 4] rfl rfl h))) rfl rfl⟩
      dsimp only
      rw [reps_succ, if_pos hl, List.map_append]
      exact hr.push hoL (hsat2.dj 5 6 rfl rfl (by decide))
  · have hkN : k = N := by omega
    subst hkN
    have hh := Rws.sl (f := fI) (fun _ => rfl) (by decide) hr hoR (hsat.dj 4 5 rfl rfl (by decide))
    exact ⟨[.hp (oR.h.join H), .hp oO.h], ⟨oR.a, oR.n, oR.c, _, oO, rfl, rfl, hh, hoO⟩, fun w' h => Ok.join (c := .hp (Hp.whole w)) (d := .hp oR.h) (e := .hp H) (s := [.hp oO.h]) (h.pick [0, 4, 5, 3] rfl rfl)⟩
end Go.Proofs.Ytdjhgcpmipglfaa
