/- Contracts of the graph's listed and closure. Each theorem's premises are its own. -/
import Derived.Test.YtdjhgcpmipglfaaG7
namespace Go.Proofs.Ytdjhgcpmipglfaa
open Go Go.RowKit Go.Dw

/-- the places where S holds -/
def lst (S : List Bool) : List Int := ((List.range S.length).filter fun k => S.getD k false).map fun (k : Nat) => (k : Int)
def lstK (S : List Bool) (k : Nat) : List Int := ((List.range k).filter fun k => S.getD k false).map fun (k : Nat) => (k : Int)
theorem lstK_succ {S : List Bool} {k : Nat} (h : k < S.length) : lstK S (k + 1) = if S[k] then lstK S k ++ [(k : Int)] else lstK S k := by
  unfold lstK
  rw [List.range_succ, List.filter_append, List.map_append]
  by_cases hb : S[k] = true
  · simp [hb, h]
  · simp [hb, h]
theorem lstK_len (S : List Bool) (k : Nat) : (lstK S k).length ≤ k := by
  unfold lstK; rw [List.length_map]
  exact Nat.le_trans (List.length_filter_le _ _) (by simp)

theorem listed_spec {a : Option Addr} {n c : Nat} {S : List Bool} (w : World) (hL : Sl (encF fB) 1 (Hp.whole w) a n c S) (hn : S.length < 1000000) :
    CallsE Try.prog 87 #[.slice a n c] w (Ret w fun v cs => ∃ o, v = o.v ∧ cs = [.hp o.h] ∧ OwnO fI 3 1 o (lst S)) := by
  have hlen := hL.len
  refine enter (X := cx 20) (cxg _) (args := [.slice a n c]) [.tmp 2] Try.func87 rfl rfl rfl rfl rfl ?_
  refine NeedL.mk (Nat × Dw.Os) (fun g => [(3, .v g.2.v), (6, .v (.slice a n c)), (7, .v (.int .i64 n)), (8, .v (.int .i64 g.1))]) (fun g => [.hp (Hp.whole w), .hp g.2.h])
    (fun g => g.1 ≤ n ∧ OwnO fI 3 1 g.2 (lstK S g.1)) (fun g => n - g.1) (0, Os.nil) ⟨Nat.zero_le _, OwnO.nil _ _ _⟩ (Ent.mk (fun _ _ h => h.emp) rfl rfl) ?_
  rintro ⟨k, o1⟩ ⟨hk, ho⟩
  dsimp only at *
  have hkl := lstK_len S k
  refine bsplitd (fun hlt => ?_) (fun hge => ?_)
  · have hlt' : k < S.length := by omega
    have hs := lstK_succ hlt'
    refine idx (cxg _) (e := 4) rfl hL k rfl hlt' (fun b o cs hcs hR hcell => ?_)
    subst hR
    refine ld1 (cxg _) (i := 0) rfl (hcell 0 _ rfl) rfl ?_
    refine bsplit (fun hb => ?_) (fun hb => ?_)
    · intro b2
      refine appO (cxg _) (e := 3) rfl (i := 1) rfl ho (j := 2) (k : Int) rfl rfl rfl rfl (by omega) (fun o' ho' => ?_)
      refine nw (by omega) (by omega) ?_
      exact ⟨(k + 1, o'), ⟨by dsimp only; omega, by dsimp only; rw [hs, if_pos hb]; exact ho'⟩, by dsimp only; omega, Ent.mk (fun _ _ h => h.pick [0, 1] rfl rfl) rfl rfl⟩
    · refine nw (by omega) (by omega) ?_
      exact ⟨(k + 1, o1), ⟨by dsimp only; omega, by dsimp only; rw [hs, hb]; exact ho⟩, by dsimp only; omega, Ent.mk (fun _ _ h => h) rfl rfl⟩
  · have : lst S = lstK S k := by unfold lst lstK; rw [show S.length = k by omega]
    exact ⟨[.hp o1.h], ⟨o1, rfl, rfl, by rw [this]; exact ho⟩, fun w' h => h⟩

def cloF (N : Nat) (E : List (Int × Int)) : List (List Bool) := (List.range N).map fun (a : Nat) => rchL N E [(a : Int)]
def cloK (N : Nat) (E : List (Int × Int)) (k : Nat) : List (List Bool) := (List.range N).map fun (a : Nat) => if a < k then rchL N E [(a : Int)] else []
theorem cloK_succ (N : Nat) (E : List (Int × Int)) (k : Nat) : cloK N E (k + 1) = (cloK N E k).set k (rchL N E [(k : Int)]) := by
  apply List.ext_getElem
  · simp [cloK]
  · intro i h1 h2
    rw [List.getElem_set]
    simp only [cloK, List.getElem_map, List.getElem_range]
    by_cases h : k = i
    · subst h; simp
    · rw [if_neg h]
      by_cases h3 : i < k
      · rw [if_pos h3, if_pos (by omega)]
      · rw [if_neg h3, if_neg (by omega)]
theorem closure_spec {a : Option Addr} {n c : Nat} {E : List (Int × Int)} (N : Nat) (w : World) (hL : Sl (encF fE) 2 (Hp.whole w) a n c E) (hG : Gr N E) :
    CallsE Try.prog 101 #[gv N a n c] w (Ret w fun v cs => ∃ a' c' h, v = .slice a' N c' ∧ cs = [.hp h] ∧ Sl (encS (encF fB) 1) 1 h a' N c' (cloF N E)) := by
  have hN := hG.hN
  refine enter (X := cx 22) (cxg _) (args := [.agg #[.int .i64 N, .slice a n c]]) [.tmp 2] Try.func101 rfl rfl rfl rfl rfl ?_
  intro b
  refine mkO (f := Os.row) (cxg _) (e := 101) rfl N Os.nil rfl rfl rfl rfl (by omega) fun o ho' ho => ?_
  refine NeedL.mkS (Nat × Dw.Os × List Dw.Os × Hp) (fun g => [(1, .bx 1 0), (3, .v g.2.1.v), (9, .v (.int .i64 N)), (10, .v (.int .i64 g.1))]) (fun g => [.hp (Hp.whole w), .box b [.int .i64 N, .slice a n c] 26, .hp g.2.1.h, .hp g.2.2.2])
    (fun g => g.1 ≤ N ∧ g.2.1.n = N ∧ OwnO Os.row 101 1 g.2.1 g.2.2.1 ∧ Rws fB 4 1 g.2.2.2 g.2.2.1 (cloK N E g.1)) (fun g => N - g.1) (0, o, List.replicate N Os.nil, Hp.emp)
    ⟨Nat.zero_le _, ho', ho, ?_⟩ (Ent.mk (fun _ _ h => h.emp) (by rw [← ho']; rfl) rfl) ?_
  · have : cloK N E 0 = List.replicate N [] := by
      apply List.ext_getElem
      · simp [cloK]
      · intro i h1 h2; simp [cloK]
    dsimp only
    rw [this]
    exact Rws.init _ _ _ _ _
  rintro ⟨k, o1, os, H⟩ ⟨hk, hon, ho1, hr⟩ hsat
  dsimp only at *
  refine bsplitd (fun hlt => ?_) (fun hge => ?_)
  · have hkN : k < N := by omega
    have hko : k < os.length := by rw [hr.len]; simp [cloK]; omega
    intro b2
    refine callS (fun w' hm => reach_spec (F := [(k : Int)]) N w' (hL.mono (encF_mono _) (hm 0 _ rfl)) (Sl.box (f := fI) (fun _ => rfl) (by decide) (hm 4 _ rfl) [(k : Int)] rfl rfl (by simp)) hG (by simp; omega) (by simp)) ?_
    rintro _ _ ⟨o2, rfl, rfl, ho2⟩ hsat2
    refine oidx1 (cxg _) (e := 101) rfl rfl ho1 k rfl hko fun b3 hb3 => ?_
    refine osto (g := Os.v) (fun _ => rfl) (cxg _) (i := 2) rfl hb3 ho1 hko rfl rfl o2 rfl rfl rfl fun o3 e1 e2 e3 ho3 => ?_
    refine nw (by omega) (by omega) ?_
    have hdj : H.dj o2.h := hsat2.dj 3 5 rfl rfl (by decide)
    refine ⟨(k + 1, o3, os.set k o2, H.join o2.h), ⟨by dsimp only; omega, by dsimp only; omega, ho3, ?_⟩, by dsimp only; omega, Ent.mk (fun _ _ h => Ok.pick [0, 2, 3, 1] rfl rfl (Ok.join (c := .hp (Hp.whole w)) (Ok.pick [0, 3, 5, 1, 2] rfl rfl h))) (by dsimp only [Os.v]; rw [e1, e2, e3]; rfl) rfl⟩
    dsimp only
    rw [cloK_succ]
    exact hr.put ho2 hdj k
  · have hc : cloK N E k = cloF N E := by
      unfold cloK cloF
      apply List.map_congr_left
      intro x hx
      rw [if_pos (by have := List.mem_range.1 hx; omega)]
    rw [hc] at hr
    refine ⟨[.hp (o1.h.join H)], ⟨o1.a, o1.c, _, by rw [← hon]; rfl, rfl, ?_⟩, fun w' h => (h.pick [0, 2, 3] rfl rfl).join⟩
    have hh := Rws.sl (f := fB) (fun _ => rfl) (by decide) hr ho1 (hsat.dj 2 3 rfl rfl (by decide))
    rwa [hon] at hh
end Go.Proofs.Ytdjhgcpmipglfaa
