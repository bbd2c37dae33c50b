/- Contracts of the graph's next and listed. Each theorem's premises are its own. -/
import Derived.Test.YtdjhgcpmipglfaaG4
import Derived.Test.YtdjhgcpmipglfaaDwh
namespace Go.Proofs.Ytdjhgcpmipglfaa
open Go Go.RowKit Go.Dw

/-- a graph that the walks may step through -/
structure Gr (N : Nat) (E : List (Int × Int)) : Prop where
  hN : N ≤ 64
  rng : ∀ e ∈ E, 0 ≤ e.1 ∧ e.1 < N ∧ 0 ≤ e.2 ∧ e.2 < N
  len : E.length ≤ 10000
def succs (E : List (Int × Int)) (k : Nat) : List Int := (E.filter fun e => e.1 == (k : Int)).map (·.2)
def nextF (N : Nat) (E : List (Int × Int)) : List (List Int) := (List.range N).map (succs E)
theorem nextF_step {N : Nat} {E : List (Int × Int)} {m k : Nat} (hm : m < E.length) (hk : E[m].1 = k) (hk' : k < (nextF N (E.take m)).length) :
    nextF N (E.take (m + 1)) = (nextF N (E.take m)).set k ((nextF N (E.take m))[k] ++ [E[m].2]) := by
  apply List.ext_getElem
  · simp [nextF]
  · intro i h1 h2
    simp only [nextF, List.length_map, List.length_range] at h1
    rw [List.getElem_set]
    simp only [nextF, List.getElem_map, List.getElem_range, succs]
    rw [List.take_succ_eq_append_getElem hm, List.filter_append, List.map_append]
    by_cases h : k = i
    · subst h; simp [hk]
    · rw [if_neg h]
      have : ¬ (E[m].1 = (i : Int)) := by omega
      simp [this]

theorem next_spec {a : Option Addr} {n c : Nat} {E : List (Int × Int)} (N : Nat) (w : World) (hL : Sl (encF fE) 2 (Hp.whole w) a n c E) (hG : Gr N E) :
    CallsE Try.prog 84 #[gv N a n c] w (Ret w fun v cs => ∃ a' c' h, v = .slice a' N c' ∧ cs = [.hp h] ∧ Sl (encS (encF fI) 1) 1 h a' N c' (nextF N E)) := by
  have hlen := hL.len
  have hN := hG.hN
  have hl := hG.len
  refine enter (X := cx 31) (cxg _) (args := [.agg #[.int .i64 N, .slice a n c]]) [.tmp 2] Try.func84 rfl rfl rfl rfl rfl ?_
  intro b
  refine mkO (f := Os.row) (cxg _) (e := 42) rfl N Os.nil rfl rfl rfl rfl (by omega) fun o ho' ho => ?_
  refine NeedL.mkS (Nat × Dw.Os × List Dw.Os × Hp) (fun g => [(1, .bx 1 0), (3, .v g.2.1.v), (10, .v (.slice a n c)), (11, .v (.int .i64 n)), (12, .v (.int .i64 g.1))]) (fun g => [.hp (Hp.whole w), .box b [.int .i64 N, .slice a n c] 26, .hp g.2.1.h, .hp g.2.2.2])
    (fun g => g.1 ≤ n ∧ g.2.1.n = N ∧ OwnO Os.row 42 1 g.2.1 g.2.2.1 ∧ Rws fI 3 1 g.2.2.2 g.2.2.1 (nextF N (E.take g.1))) (fun g => n - g.1) (0, o, List.replicate N Os.nil, Hp.emp)
    ⟨Nat.zero_le _, ho', ho, ?_⟩ (Ent.mk (fun _ _ h => h.emp) rfl rfl) ?_
  · have : nextF N (E.take 0) = List.replicate N [] := by
      apply List.ext_getElem
      · simp [nextF]
      · intro i h1 h2; simp [nextF, succs]
    dsimp only
    rw [this]
    exact Rws.init _ _ _ _ _
  rintro ⟨k, o1, os, H⟩ ⟨hk, hon, ho1, hr⟩ hsat
  dsimp only at *
  refine bsplitd (fun hlt => ?_) (fun hge => ?_)
  · have hlt' : k < E.length := by omega
    refine idx (cxg _) (e := 32) rfl hL k rfl hlt' (fun b o cs hcs hR hcell => ?_)
    subst hR
    refine ldn (cxg _) (i := 0) rfl hcell rfl ?_
    intro b2
    refine NeedD.by_order0 (cxg _) (.take 0 <| .take 1 <| .take 2 <| .take 3 <| .take 4 <| .take 5 <| .take 6 <| .take 7 <| .take 8 <| .take 9 <| .run 10 <| .run 11 <| .run 12 <| .run 13 <| .done) (by kernel_rfl) (subL_blank _ 3) ?_
    obtain ⟨h0, h1, h2, h3⟩ := hG.rng _ (List.getElem_mem hlt')
    obtain ⟨v, hv⟩ : ∃ v : Nat, E[k].1 = v := ⟨_, (Int.toNat_of_nonneg h0).symm⟩
    have hvN : v < (nextF N (E.take k)).length := by simp [nextF]; omega
    have hvo : v < os.length := by rw [hr.len]; exact hvN
    refine oidx1 (cxg _) (e := 42) rfl rfl ho1 v hv hvo fun b3 hb3 => ?_
    refine old (g := Os.v) (fun _ => rfl) (cxg _) (i := 2) rfl hb3 ho1 hvo rfl ?_
    intro b4
    refine ⟨(by repeat first | exact trivial | refine ⟨.inl rfl, ?_⟩ | refine ⟨.inr rfl, ?_⟩), ?_⟩
    refine appR (f := fI) (cxg _) (e := 3) rfl (i := 3) rfl hr hvN rfl (j := 5) E[k].2 rfl rfl rfl rfl ?_ fun o' H' hr' => ⟨(by repeat first | exact trivial | refine ⟨.inl rfl, ?_⟩ | refine ⟨.inr rfl, ?_⟩), ?_⟩
    · have : (nextF N (E.take k))[v].length ≤ E.length := by
        simp only [nextF, List.getElem_map, List.getElem_range, succs, List.length_map]
        exact Nat.le_trans (List.length_filter_le _ _) (by simp; omega)
      omega
    refine oidx1 (cxg _) (e := 42) rfl rfl ho1 v hv hvo fun b3 hb3 => ?_
    refine osto (g := Os.v) (fun _ => rfl) (cxg _) (i := 2) rfl hb3 ho1 hvo rfl rfl o' rfl rfl rfl fun o3 e1 e2 e3 ho3 => ?_
    refine nw (by omega) (by omega) ?_
    refine ⟨(k + 1, o3, os.set v o', H'), ⟨by dsimp only; omega, by dsimp only; omega, ho3, ?_⟩, by dsimp only; omega, Ent.mk (fun _ _ h => h.pick [0, 1, 2, 3] rfl rfl) (by dsimp only [Os.v]; rw [e1, e2, e3]; rfl) rfl⟩
    dsimp only
    rw [nextF_step hlt' hv hvN]
    exact hr'
  · rw [List.take_of_length_le (by omega)] at hr
    refine ⟨[.hp (o1.h.join H)], ⟨o1.a, o1.c, _, by rw [← hon]; rfl, rfl, ?_⟩, fun w' h => (h.pick [0, 2, 3] rfl rfl).join⟩
    have hh := Rws.sl (f := fI) (fun _ => rfl) (by decide) hr ho1 (hsat.dj 2 3 rfl rfl (by decide))
    rwa [hon] at hh
end Go.Proofs.Ytdjhgcpmipglfaa
