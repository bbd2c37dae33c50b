/- Contract of the graph's reach. Its premises are its own. -/
import Derived.Test.YtdjhgcpmipglfaaG6
namespace Go.Proofs.Ytdjhgcpmipglfaa
open Go Go.RowKit Go.Dw

theorem sn_nat {S : List Bool} {k : Nat} (h : k < S.length) : sn S (k : Int) = S[k] := by simp [sn, h]
theorem Bfs.any {N : Nat} {E : List (Int × Int)} {F : List Int} {S : List Bool} {Q : List Int} {k k' : Int} (h : Bfs N E F S Q k []) : Bfs N E F S Q k' [] :=
  ⟨h.len, h.q, h.fnd, h.src, fun e he hs => (h.clo e he hs).imp id (fun h => h.imp id (fun h => by simp at h)), by simp⟩
theorem cf_le (S : List Bool) : cf S ≤ S.length := List.length_filter_le _ _

theorem reach_spec {a a1 : Option Addr} {n c n1 c1 : Nat} {E : List (Int × Int)} {F : List Int} (N : Nat) (w : World) (hL : Sl (encF fE) 2 (Hp.whole w) a n c E) (hF : Sl (encF fI) 1 (Hp.whole w) a1 n1 c1 F) (hG : Gr N E)
    (hFr : ∀ x ∈ F, 0 ≤ x ∧ x < N) (hFl : F.length < 1000000000) :
    CallsE Try.prog 88 #[gv N a n c, .slice a1 n1 c1] w (Ret w fun v cs => ∃ o, v = o.v ∧ cs = [.hp o.h] ∧ OwnO fB 4 1 o (rchL N E F)) := by
  have hN := hG.hN
  have hl1 := hF.len
  refine enter (X := cx 61) (cxg _) (args := [.agg #[.int .i64 N, .slice a n c], .slice a1 n1 c1]) [.tmp 4] Try.func88 rfl rfl rfl rfl rfl ?_
  intro b
  refine NeedD.cut (Option Addr × Nat × Hp × Dw.Os) (fun g => [(1, .v (.slice a1 n1 c1)), (5, .v (.slice g.1 N g.2.1)), (6, .v g.2.2.2.v)]) (fun g => [.hp (Hp.whole w), .hp g.2.2.1, .hp g.2.2.2.h])
    (fun g => Sl (encS (encF fI) 1) 1 g.2.2.1 g.1 N g.2.1 (nextF N E) ∧ OwnO fB 4 1 g.2.2.2 (List.replicate N false)) (NeedD.by_order (cxg _) (.take 0 <| .take 2 <| .take 3 <| .two 1 (.take 5 <| .run 4 <| .take 6 <| .done) 4 (.run 1 <| .take 5 <| .take 6 <| .done)) (by kernel_rfl) ?_) ?_
  · constructor
    · refine call (fun w' hm => next_spec N w' (hL.mono (encF_mono _) (hm 0 _ rfl)) hG) ?_
      rintro _ _ ⟨a', c', h, rfl, rfl, hs⟩
      refine ⟨(by repeat first | exact trivial | refine ⟨.inl rfl, ?_⟩ | refine ⟨.inr rfl, ?_⟩), ?_⟩
      refine mkO (f := fB) (cxg _) (e := 4) rfl N false rfl rfl rfl rfl (by omega) fun o ho' ho => ?_
      refine ⟨(by repeat first | exact trivial | refine ⟨.inl rfl, ?_⟩ | refine ⟨.inr rfl, ?_⟩), ?_⟩
      exact ⟨(a', c', h, o), ⟨hs, ho⟩, Ent.mk (fun _ _ h => h.pick [0, 2, 3] rfl rfl) rfl rfl⟩
    · refine mkO (f := fB) (cxg _) (e := 4) rfl N false rfl rfl rfl rfl (by omega) fun o ho' ho => ?_
      refine ⟨(by repeat first | exact trivial | refine ⟨.inl rfl, ?_⟩ | refine ⟨.inr rfl, ?_⟩), ?_⟩
      refine call (fun w' hm => next_spec N w' (hL.mono (encF_mono _) (hm 0 _ rfl)) hG) ?_
      rintro _ _ ⟨a', c', h, rfl, rfl, hs⟩
      refine ⟨(by repeat first | exact trivial | refine ⟨.inl rfl, ?_⟩ | refine ⟨.inr rfl, ?_⟩), ?_⟩
      exact ⟨(a', c', h, o), ⟨hs, ho⟩, Ent.mk (fun _ _ h => h.pick [0, 3, 2] rfl rfl) rfl rfl⟩
  rintro ⟨a2, c2, hx, o0⟩ ⟨hX, ho0⟩ _
  dsimp only at *
  refine call (fun w' hm => cloneInts_spec w' (hF.mono (encF_mono _) (hm 0 _ rfl)) (by omega)) ?_
  rintro _ _ ⟨oq, rfl, rfl, hq0⟩
  have hqs := OwnO.sl (f := fI) (fun _ => rfl) (by decide) hq0
  refine NeedL.mk (Nat × Dw.Os × List Bool) (fun g => [(5, .v (.slice a2 N c2)), (6, .v g.2.1.v), (7, .v oq.v), (20, .v oq.v), (21, .v (.int .i64 oq.n)), (22, .v (.int .i64 g.1))]) (fun g => [.hp (Hp.whole w), .hp hx, .hp g.2.1.h, .hp oq.h])
    (fun g => g.1 ≤ F.length ∧ OwnO fB 4 1 g.2.1 g.2.2 ∧ g.2.2.length = N ∧ ∀ x : Int, 0 ≤ x → (sn g.2.2 x = true ↔ x ∈ F.take g.1)) (fun g => F.length - g.1) (0, o0, List.replicate N false)
    ⟨Nat.zero_le _, ho0, by simp, fun x hx => by simp only [sn, List.getD_eq_getElem?_getD, List.getElem?_replicate, List.take_zero, List.not_mem_nil, iff_false, Bool.not_eq_true]; split <;> rfl⟩ (Ent.mk (fun _ _ h => h) rfl rfl) ?_
  rintro ⟨k, o1, S⟩ ⟨hk, ho1, hSl, hS⟩
  dsimp only at *
  have hqn := hq0.len
  refine bsplitd (fun hlt => ?_) (fun hge => ?_)
  · have hlt' : k < F.length := by omega
    refine idx (cxg _) (e := 3) rfl hqs k rfl hlt' (fun b o cs hcs hR hcell => ?_)
    subst hR
    refine ld1 (cxg _) (i := 3) rfl (hcell 0 _ rfl) rfl ?_
    obtain ⟨h0, h1⟩ := hFr _ (List.getElem_mem hlt')
    have hv : F[k] = (F[k].toNat : Int) := (Int.toNat_of_nonneg h0).symm
    have hvS : F[k].toNat < S.length := by omega
    refine oidx1 (cxg _) (e := 4) rfl rfl ho1 _ hv hvS fun b3 hb3 => ?_
    refine osto (g := Value.bool) (fun _ => rfl) (cxg _) (i := 2) rfl hb3 ho1 hvS rfl rfl true rfl rfl rfl fun o3 e1 e2 e3 ho3 => ?_
    refine nw (by omega) (by omega) ?_
    refine ⟨(k + 1, o3, S.set F[k].toNat true), ⟨by dsimp only; omega, ho3, by simpa using hSl, fun x hx => ?_⟩, by dsimp only; omega, Ent.mk (fun _ _ h => h) (by dsimp only [Os.v]; rw [e1, e2, e3]; rfl) rfl⟩
    dsimp only
    rw [sn_set h0 hvS hx, List.take_succ_eq_append_getElem hlt']
    simp only [Bool.or_eq_true, decide_eq_true_eq, List.mem_append, List.mem_singleton, hS x hx]
    exact Or.comm
  rw [List.take_of_length_le (by omega)] at hS
  have hcf := cf_le S
  refine NeedL.mk (Dw.Os × List Bool × Dw.Os × List Int) (fun g => [(5, .v (.slice a2 N c2)), (6, .v g.1.v), (7, .v g.2.2.1.v)]) (fun g => [.hp (Hp.whole w), .hp hx, .hp g.1.h, .hp g.2.2.1.h])
    (fun g => OwnO fB 4 1 g.1 g.2.1 ∧ OwnQ fI 3 1 g.2.2.1 g.2.2.2 ∧ Bfs N E F g.2.1 g.2.2.2 0 [] ∧ 2 * cf g.2.1 + g.2.2.2.length ≤ 2 * N + F.length) (fun g => 2 * cf g.2.1 + g.2.2.2.length) (o1, S, oq, F)
    ⟨ho1, hq0.q, Bfs.init hG hFr hSl hS, by dsimp only; omega⟩ (Ent.mk (fun _ _ h => h) rfl rfl) ?_
  clear ho1 hSl hS hcf hk hge o1 S hq0 hqs hqn
  rintro ⟨o1, S, oq, Q⟩ ⟨ho1, hq, hB, hM⟩
  dsimp only at *
  have hqn := hq.len
  refine bsplitd (fun hlt => ?_) (fun hge => ?_)
  · cases Q with
    | nil => simp at hqn; omega
    | cons x Q =>
    simp only [List.length_cons] at hM hqn
    have hqs := OwnQ.sl (f := fI) (fun _ => rfl) (by decide) hq
    refine idx (cxg _) (e := 3) rfl hqs 0 rfl (by simp) (fun b o cs hcs hR hcell => ?_)
    subst hR
    refine ld1 (cxg _) (i := 3) rfl (hcell 0 _ rfl) rfl ?_
    refine qtail (f := fI) (cxg _) (e := 3) rfl (fun _ => rfl) hq fun oq' hq' hqh => ?_
    obtain ⟨h0, h1, _⟩ := hB.q x (by simp)
    obtain ⟨v, rfl⟩ : ∃ v : Nat, x = v := ⟨_, (Int.toNat_of_nonneg h0).symm⟩
    have hvN : v < (nextF N E).length := by simp [nextF]; omega
    have hB := hB.pop rfl
    refine idx (cxg _) (e := 42) rfl hX v rfl hvN (fun b o cs hcs hR hcell => ?_)
    obtain ⟨a3, n3, c3, rfl, hs3⟩ := hR
    refine ld1 (cxg _) (i := 1) rfl (hcell 0 _ rfl) rfl ?_
    have hrow : (nextF N E)[v] = succs E v := by simp [nextF]
    rw [hrow] at hs3
    have hn3 := hs3.len
    have hsl : (succs E v).length ≤ 10000 := by
      have := hG.len
      simp only [succs, List.length_map]
      exact Nat.le_trans (List.length_filter_le _ _) this
    refine NeedL.mk (Nat × Dw.Os × List Bool × Dw.Os × List Int) (fun g => [(5, .v (.slice a2 N c2)), (6, .v g.2.1.v), (7, .v g.2.2.2.1.v), (41, .v (.slice a3 n3 c3)), (42, .v (.int .i64 n3)), (43, .v (.int .i64 g.1))]) (fun g => [.hp (Hp.whole w), .hp hx, .hp g.2.1.h, .hp g.2.2.2.1.h])
      (fun g => g.1 ≤ n3 ∧ OwnO fB 4 1 g.2.1 g.2.2.1 ∧ OwnQ fI 3 1 g.2.2.2.1 g.2.2.2.2 ∧ Bfs N E F g.2.2.1 g.2.2.2.2 v ((succs E v).drop g.1) ∧ 2 * cf g.2.2.1 + g.2.2.2.2.length ≤ 2 * cf S + Q.length) (fun g => n3 - g.1) (0, o1, S, oq', Q)
      ⟨Nat.zero_le _, ho1, hq', hB, Nat.le_refl _⟩ (Ent.mk (fun _ _ h => by rw [hqh]; exact h) rfl rfl) ?_
    rintro ⟨j, o2, S2, oq2, Q2⟩ ⟨hj, ho2, hq2, hB2, hM2⟩
    dsimp only at *
    refine bsplitd (fun hlt => ?_) (fun hge => ?_)
    · have hlt' : j < (succs E v).length := by omega
      rw [List.drop_eq_getElem_cons hlt'] at hB2
      refine idx (cxg _) (e := 3) rfl hs3 j rfl hlt' (fun b o cs hcs hR hcell => ?_)
      subst hR
      refine ld1 (cxg _) (i := 1) rfl (hcell 0 _ rfl) rfl ?_
      obtain ⟨_, _, h3, h4⟩ := hG.rng _ (hB2.kk _ List.mem_cons_self).1
      dsimp only at h3 h4
      have hv : (succs E v)[j] = ((succs E v)[j].toNat : Int) := (Int.toNat_of_nonneg h3).symm
      have hvS : (succs E v)[j].toNat < S2.length := by rw [hB2.len]; omega
      refine oidx1 (cxg _) (e := 4) rfl rfl ho2 _ hv hvS fun b3 hb3 => ?_
      refine old (g := Value.bool) (fun _ => rfl) (cxg _) (i := 2) rfl hb3 ho2 hvS rfl ?_
      have hsn : sn S2 (succs E v)[j] = S2[(succs E v)[j].toNat] := by unfold sn; rw [List.getD_eq_getElem?_getD, List.getElem?_eq_getElem hvS]; rfl
      refine bsplit (fun hb => ?_) (fun hb => ?_)
      · refine oidx1 (cxg _) (e := 4) rfl rfl ho2 _ hv hvS fun b3 hb3 => ?_
        refine osto (g := Value.bool) (fun _ => rfl) (cxg _) (i := 2) rfl hb3 ho2 hvS rfl rfl true rfl rfl rfl fun o3 e1 e2 e3 ho3 => ?_
        intro b4
        refine appQ (f := fI) (cxg _) (e := 3) rfl (i := 3) rfl hq2 (j := 4) (succs E v)[j] rfl rfl rfl rfl (by omega) fun oq3 hq3 => ?_
        refine nw (by omega) (by omega) ?_
        have hcf := cf_set (S := S2) (k := (succs E v)[j].toNat) (by rw [List.getElem?_eq_getElem hvS]; simpa using hb)
        exact ⟨(j + 1, o3, S2.set (succs E v)[j].toNat true, oq3, Q2 ++ [(succs E v)[j]]), ⟨by dsimp only; omega, ho3, hq3, hB2.mark hG, by simp only [List.length_append, List.length_singleton]; omega⟩, by dsimp only; omega,
          Ent.mk (fun _ _ h => h.pick [0, 1, 2, 3] rfl rfl) (by dsimp only [Os.v]; rw [e1, e2, e3]; rfl) rfl⟩
      · refine nw (by omega) (by omega) ?_
        exact ⟨(j + 1, o2, S2, oq2, Q2), ⟨by dsimp only; omega, ho2, hq2, hB2.skip (by rw [hsn]; simpa using hb), hM2⟩, by dsimp only; omega, Ent.mk (fun _ _ h => h) rfl rfl⟩
    · rw [List.drop_of_length_le (by omega)] at hB2
      exact ⟨(o2, S2, oq2, Q2), ⟨ho2, hq2, hB2.any, by dsimp only; omega⟩, by simp only [List.length_cons]; omega, Ent.mk (fun _ _ h => h) rfl rfl⟩
  · cases Q with
    | cons x Q => simp at hqn; omega
    | nil =>
    exact ⟨[.hp o1.h], ⟨o1, rfl, rfl, by rw [← hB.fin hG hFr]; exact ho1⟩, fun w' h => h.pick [0, 2] rfl rfl⟩
end Go.Proofs.Ytdjhgcpmipglfaa
