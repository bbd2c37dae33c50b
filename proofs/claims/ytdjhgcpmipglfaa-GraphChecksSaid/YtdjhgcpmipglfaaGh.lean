/- Contract of the graph's distances. Its premises are its own. -/
import Derived.Test.YtdjhgcpmipglfaaGg
namespace Go.Proofs.Ytdjhgcpmipglfaa
open Go Go.RowKit Go.Dw

theorem dn_get {D : List Int} {x : Int} (h : x.toNat < D.length) : D[x.toNat] = dn D x := by unfold dn; simp [h]
theorem Ok.same {w0 w : World} {s : List Ch} {i : Nat} {c d : Ch} (hi : sget s i = some c) (hd : d.h = c.h) (hok : Ok w0 s w) : Ok w0 (sset s i d) w := by
  refine ⟨hok.os, hok.tape, hok.output, hok.size, hok.drawn, fun k x hx => ?_, fun j k x y hjk h1 h2 => ?_⟩
  · rw [sget_put hi] at hx
    split at hx
    · cases hx; rw [hd]; exact hok.mem i c hi
    · exact hok.mem k x hx
  · rw [sget_put hi] at h1 h2
    split at h1 <;> split at h2
    · omega
    · cases h1; rw [hd]; exact hok.disj _ _ _ _ (by omega) hi h2
    · cases h2; rw [hd]; exact hok.disj _ _ _ _ (by omega) h1 hi
    · exact hok.disj _ _ _ _ hjk h1 h2
/-- a new slice's block is owned -/
theorem OwnO.box {α : Type} {f : α → List Value} {sz : Nat} (hf : ∀ x, (f x).length = sz) {b T : Nat} {cs : List Value} (L : List α) {n : Nat} (hL : cs = L.flatMap f) (hn : n = L.length) (hl : L.length < 1000000) :
    OwnO f T sz ⟨some ⟨b, 0, none⟩, n, n, (Ch.box b cs T).h⟩ L := by
  subst hL hn
  have hl := flatLen hf L
  refine ⟨rfl, hl, .inr ⟨b, _, rfl, Hp.one_self _ _, Nat.le_refl _, by unfold maxLen; dsimp only; omega, by simpa using hl, ?_⟩⟩
  exact List.take_of_length_le (Nat.le_of_eq hl)

theorem distances_spec {a : Option Addr} {n c : Nat} {E : List (Int × Int)} (N : Nat) (to : Int) (w : World) (hL : Sl (encF fE) 2 (Hp.whole w) a n c E) (hG : Gr N E) (hto : 0 ≤ to ∧ to < N) :
    CallsE Try.prog 107 #[gv N a n c, .int .i64 to] w (Ret w fun v cs => ∃ o : Dw.Os, v = o.v ∧ cs = [.hp o.h] ∧ OwnO fI 3 1 o (farF N E to)) := by
  have hN := hG.hN
  have hX := revF_gr hG
  have hEl : E.length < 1000000 := by have := hG.len; omega
  refine enter (X := cx 68) (cxg _) (args := [.agg #[.int .i64 N, .slice a n c], .int .i64 to]) [.tmp 4] Try.func107 rfl rfl rfl rfl rfl ?_
  intro b
  refine NeedD.cut (Option Addr × Nat × Hp × Dw.Os) (fun g => [(1, .v (.int .i64 to)), (5, .v (.slice g.1 N g.2.1)), (6, .v g.2.2.2.v)]) (fun g => [.hp (Hp.whole w), .hp g.2.2.1, .hp g.2.2.2.h])
    (fun g => Sl (encS (encF fI) 1) 1 g.2.2.1 g.1 N g.2.1 (nextF N (revF E)) ∧ g.2.2.2.n = N ∧ OwnO fI 3 1 g.2.2.2 (List.replicate N 0)) (NeedD.by_order (cxg _) (.take 0 <| .take 3 <| .take 4 <| .two 1 (.two 2 (.take 6 <| .run 5 <| .take 7 <| .done) 5 (.run 2 <| .take 6 <| .take 7 <| .done)) 5 (.run 1 <| .run 2 <| .take 6 <| .take 7 <| .done)) (by kernel_rfl) ?_) ?_
  · constructor
    · refine call (fun w' hm => reversed_spec N w' (hL.mono (encF_mono _) (hm 0 _ rfl)) hEl) ?_
      rintro _ _ ⟨o1, rfl, rfl, ho1⟩
      have hs1 := OwnO.sl (f := fE) (fun _ => rfl) (by decide) ho1
      refine ⟨(by repeat first | exact trivial | refine ⟨.inl rfl, ?_⟩ | refine ⟨.inr rfl, ?_⟩), ?_⟩
      constructor
      · refine call (fun w' hm => next_spec N w' (hs1.mono (encF_mono _) (hm 2 _ rfl)) hX) ?_
        rintro _ _ ⟨a', c', h, rfl, rfl, hs⟩
        refine ⟨(by repeat first | exact trivial | refine ⟨.inl rfl, ?_⟩ | refine ⟨.inr rfl, ?_⟩), ?_⟩
        refine mkO (f := fI) (cxg _) (e := 3) rfl N 0 rfl rfl rfl rfl (by omega) fun o ho' ho => ?_
        refine ⟨(by repeat first | exact trivial | refine ⟨.inl rfl, ?_⟩ | refine ⟨.inr rfl, ?_⟩), ?_⟩
        exact ⟨(a', c', h, o), ⟨hs, ho', ho⟩, Ent.mk (fun _ _ h => h.pick [0, 3, 4] rfl rfl) rfl rfl⟩
      · refine mkO (f := fI) (cxg _) (e := 3) rfl N 0 rfl rfl rfl rfl (by omega) fun o ho' ho => ?_
        refine ⟨(by repeat first | exact trivial | refine ⟨.inl rfl, ?_⟩ | refine ⟨.inr rfl, ?_⟩), ?_⟩
        refine call (fun w' hm => next_spec N w' (hs1.mono (encF_mono _) (hm 2 _ rfl)) hX) ?_
        rintro _ _ ⟨a', c', h, rfl, rfl, hs⟩
        refine ⟨(by repeat first | exact trivial | refine ⟨.inl rfl, ?_⟩ | refine ⟨.inr rfl, ?_⟩), ?_⟩
        exact ⟨(a', c', h, o), ⟨hs, ho', ho⟩, Ent.mk (fun _ _ h => h.pick [0, 4, 3] rfl rfl) rfl rfl⟩
    · refine mkO (f := fI) (cxg _) (e := 3) rfl N 0 rfl rfl rfl rfl (by omega) fun o ho' ho => ?_
      refine ⟨(by repeat first | exact trivial | refine ⟨.inl rfl, ?_⟩ | refine ⟨.inr rfl, ?_⟩), ?_⟩
      refine call (fun w' hm => reversed_spec N w' (hL.mono (encF_mono _) (hm 0 _ rfl)) hEl) ?_
      rintro _ _ ⟨o1, rfl, rfl, ho1⟩
      have hs1 := OwnO.sl (f := fE) (fun _ => rfl) (by decide) ho1
      refine ⟨(by repeat first | exact trivial | refine ⟨.inl rfl, ?_⟩ | refine ⟨.inr rfl, ?_⟩), ?_⟩
      refine call (fun w' hm => next_spec N w' (hs1.mono (encF_mono _) (hm 3 _ rfl)) hX) ?_
      rintro _ _ ⟨a', c', h, rfl, rfl, hs⟩
      refine ⟨(by repeat first | exact trivial | refine ⟨.inl rfl, ?_⟩ | refine ⟨.inr rfl, ?_⟩), ?_⟩
      exact ⟨(a', c', h, o), ⟨hs, ho', ho⟩, Ent.mk (fun _ _ h => h.pick [0, 4, 2] rfl rfl) rfl rfl⟩
  rintro ⟨a2, c2, hx, o0⟩ ⟨hXs, hon0, ho0⟩ _
  dsimp only at *
  generalize hXE : revF E = X at hXs hX
  refine NeedL.mk (Nat × Dw.Os) (fun g => [(1, .v (.int .i64 to)), (5, .v (.slice a2 N c2)), (6, .v g.2.v), (18, .v (.int .i64 N)), (19, .v (.int .i64 g.1))]) (fun g => [.hp (Hp.whole w), .hp hx, .hp g.2.h])
    (fun g => g.1 ≤ N ∧ g.2.n = N ∧ OwnO fI 3 1 g.2 (minK N g.1)) (fun g => N - g.1) (0, o0) ⟨Nat.zero_le _, hon0, by dsimp only; rw [minK_zero]; exact ho0⟩ (Ent.mk (fun _ _ h => h) (by rw [← hon0]; rfl) rfl) ?_
  rintro ⟨k, o⟩ ⟨hk, hon, ho⟩
  dsimp only at *
  refine bsplitd (fun hlt => ?_) (fun hge => ?_)
  · have hko : k < (minK N k).length := by simp [minK]; omega
    refine oidx1 (cxg _) (e := 3) rfl rfl ho k rfl hko fun b3 hb3 => ?_
    refine osto (g := fun x : Int => .int .i64 x) (fun _ => rfl) (cxg _) (i := 2) rfl hb3 ho hko rfl rfl (-1) rfl rfl rfl fun o3 e1 e2 e3 ho3 => ?_
    refine nw (by omega) (by omega) ?_
    exact ⟨(k + 1, o3), ⟨by dsimp only; omega, by dsimp only; omega, by dsimp only; rw [minK_succ]; exact ho3⟩, by dsimp only; omega, Ent.mk (fun _ _ h => h) (by dsimp only [Os.v]; rw [e1, e2, e3]; rfl) rfl⟩
  rw [show k = N by omega, minK_end] at ho
  have htl : to.toNat < (List.replicate N (-1 : Int)).length := by simp; omega
  refine oidx1 (cxg _) (e := 3) rfl rfl ho to.toNat (by omega) htl fun b3 hb3 => ?_
  refine osto (g := fun x : Int => .int .i64 x) (fun _ => rfl) (cxg _) (i := 2) rfl hb3 ho htl rfl rfl 0 rfl rfl rfl fun o3 e1 e2 e3 ho3 => ?_
  intro b4
  have hq0 : OwnO fI 3 1 ⟨some ⟨b4, 0, none⟩, 1, 1, (Ch.box b4 [.int .i64 to] 3).h⟩ [to] := OwnO.box (fun _ => rfl) [to] rfl rfl (by simp)
  refine NeedL.mk (Dw.Os × List Int × Dw.Os × List Int × Int) (fun g => [(5, .v (.slice a2 N c2)), (6, .v g.1.v), (8, .v g.2.2.1.v)]) (fun g => [.hp (Hp.whole w), .hp hx, .hp g.1.h, .hp g.2.2.1.h])
    (fun g => OwnO fI 3 1 g.1 g.2.1 ∧ OwnQ fI 3 1 g.2.2.1 g.2.2.2.1 ∧ Db N X to g.2.1 g.2.2.2.1 g.2.2.2.2 [] ∧ 2 * cneg g.2.1 + g.2.2.2.1.length ≤ 2 * N + 1) (fun g => 2 * cneg g.2.1 + g.2.2.2.1.length) (o3, _, ⟨some ⟨b4, 0, none⟩, 1, 1, (Ch.box b4 [.int .i64 to] 3).h⟩, [to], to)
    ⟨ho3, hq0.q, Db.init hX hto, ?_⟩ (Ent.mk (fun _ _ h => Ok.same (i := 3) (c := .box b4 [.int .i64 to] 3) (d := .hp (Ch.box b4 [.int .i64 to] 3).h) rfl rfl h) (by dsimp only [Os.v]; rw [e1, e2, e3]; rfl) rfl) ?_
  · dsimp only
    have h1 := (Db.init hX hto).bnd to hto.1 hto.2
    have h2 := (Db.init hX hto).s0
    simp only [List.length_singleton]; omega
  clear ho3 e1 e2 e3 hb3 hk hon ho hge k o hq0
  rintro ⟨o1, D, oq, Q, k0⟩ ⟨ho1, hq, hB, hM⟩
  dsimp only at *
  have hqn := hq.len
  refine bsplitd (fun hlt => ?_) (fun hge => ?_)
  · cases Q with
    | nil => simp at hqn; omega
    | cons x Q =>
    simp only [List.length_cons] at hM hqn
    have hqs := OwnQ.sl (f := fI) (fun _ => rfl) (by decide) hq
    refine idx (cxg _) (e := 3) rfl hqs 0 rfl (by simp) (fun b o cs hcs hR hcell => ?_)
    subst hR
    refine ld1 (cxg _) (i := 3) rfl (hcell 0 _ rfl) rfl ?_
    obtain ⟨h0, h1, _⟩ := hB.q x (by simp)
    obtain ⟨v, rfl⟩ : ∃ v : Nat, x = v := ⟨_, (Int.toNat_of_nonneg h0).symm⟩
    have hvN : v < (nextF N X).length := by simp [nextF]; omega
    have hB := hB.pop rfl
    refine idx (cxg _) (e := 42) rfl hXs v rfl hvN (fun b o cs hcs hR hcell => ?_)
    obtain ⟨a3, n3, c3, rfl, hs3⟩ := hR
    refine ld1 (cxg _) (i := 1) rfl (hcell 0 _ rfl) rfl ?_
    have hrow : (nextF N X)[v] = succs X v := by simp [nextF]
    rw [hrow] at hs3
    have hn3 := hs3.len
    have hsl : (succs X v).length ≤ 10000 := by
      have := hX.len
      simp only [succs, List.length_map]
      exact Nat.le_trans (List.length_filter_le _ _) this
    refine NeedL.mk (Nat × Dw.Os × List Int × Dw.Os × List Int) (fun g => [(5, .v (.slice a2 N c2)), (6, .v g.2.1.v), (8, .v g.2.2.2.1.v), (41, .v (.slice a3 n3 c3)), (42, .v (.int .i64 n3)), (43, .v (.int .i64 g.1))]) (fun g => [.hp (Hp.whole w), .hp hx, .hp g.2.1.h, .hp g.2.2.2.1.h])
      (fun g => g.1 ≤ n3 ∧ OwnO fI 3 1 g.2.1 g.2.2.1 ∧ OwnQ fI 3 1 g.2.2.2.1 ((v : Int) :: g.2.2.2.2) ∧ Db N X to g.2.2.1 g.2.2.2.2 v ((succs X v).drop g.1) ∧ 2 * cneg g.2.2.1 + g.2.2.2.2.length ≤ 2 * cneg D + Q.length) (fun g => n3 - g.1) (0, o1, D, oq, Q)
      ⟨Nat.zero_le _, ho1, hq, hB, Nat.le_refl _⟩ (Ent.mk (fun _ _ h => h) rfl rfl) ?_
    rintro ⟨j, o2, D2, oq2, Q2⟩ ⟨hj, ho2, hq2, hB2, hM2⟩
    dsimp only at *
    refine bsplitd (fun hlt => ?_) (fun hge => ?_)
    · have hlt' : j < (succs X v).length := by omega
      rw [List.drop_eq_getElem_cons hlt'] at hB2
      refine idx (cxg _) (e := 3) rfl hs3 j rfl hlt' (fun b o cs hcs hR hcell => ?_)
      subst hR
      refine ld1 (cxg _) (i := 1) rfl (hcell 0 _ rfl) rfl ?_
      obtain ⟨_, _, h3, h4⟩ := hX.rng _ (hB2.kk _ List.mem_cons_self)
      dsimp only at h3 h4
      have hv : (succs X v)[j] = ((succs X v)[j].toNat : Int) := (Int.toNat_of_nonneg h3).symm
      have hvS : (succs X v)[j].toNat < D2.length := by rw [hB2.len]; omega
      refine oidx1 (cxg _) (e := 3) rfl rfl ho2 _ hv hvS fun b3 hb3 => ?_
      refine old (g := fun x : Int => .int .i64 x) (fun _ => rfl) (cxg _) (i := 2) rfl hb3 ho2 hvS rfl ?_
      have hsn := dn_get hvS
      refine bsplitd (fun hb => ?_) (fun hb => ?_)
      · rw [hsn] at hb
        have hqs2 := OwnQ.sl (f := fI) (fun _ => rfl) (by decide) hq2
        refine idx (cxg _) (e := 3) rfl hqs2 0 rfl (by simp) (fun b o cs hcs hR hcell => ?_)
        subst hR
        refine ld1 (cxg _) (i := 3) rfl (hcell 0 _ rfl) rfl ?_
        have hvD : (v : Int).toNat < D2.length := by rw [hB2.len]; omega
        have hvg := dn_get hvD
        refine oidx1 (cxg _) (e := 3) rfl rfl ho2 (v : Int).toNat (by simp) hvD fun b3 hb3 => ?_
        refine old (g := fun x : Int => .int .i64 x) (fun _ => rfl) (cxg _) (i := 2) rfl hb3 ho2 hvD rfl ?_
        have hbd := hB2.bnd v h0 h1
        have hk0 := hB2.k0
        rw [hvg]
        refine nw (by omega) (by omega) ?_
        refine oidx1 (cxg _) (e := 3) rfl rfl ho2 _ hv hvS fun b3 hb3 => ?_
        refine osto (g := fun x : Int => .int .i64 x) (fun _ => rfl) (cxg _) (i := 2) rfl hb3 ho2 hvS rfl rfl (dn D2 v + 1) rfl rfl rfl fun o3 e1 e2 e3 ho3 => ?_
        intro b4
        refine appQ (f := fI) (cxg _) (e := 3) rfl (i := 3) rfl hq2 (j := 4) (succs X v)[j] rfl rfl rfl rfl (by simp only [List.length_cons]; omega) fun oq3 hq3 => ?_
        refine nw (by omega) (by omega) ?_
        have hcf := cneg_set (D := D2) (k := (succs X v)[j].toNat) (v := dn D2 v + 1) (List.getElem?_eq_getElem hvS) (by rw [hsn]; exact hb) (by omega)
        exact ⟨(j + 1, o3, D2.set (succs X v)[j].toNat (dn D2 v + 1), oq3, Q2 ++ [(succs X v)[j]]), ⟨by dsimp only; omega, ho3, hq3, hB2.mark hX hb, by simp only [List.length_append, List.length_singleton]; omega⟩, by dsimp only; omega,
          Ent.mk (fun _ _ h => h.pick [0, 1, 2, 3] rfl rfl) (by dsimp only [Os.v]; rw [e1, e2, e3]; rfl) rfl⟩
      · rw [hsn] at hb
        refine nw (by omega) (by omega) ?_
        exact ⟨(j + 1, o2, D2, oq2, Q2), ⟨by dsimp only; omega, ho2, hq2, hB2.skip hX (by omega), hM2⟩, by dsimp only; omega, Ent.mk (fun _ _ h => h) rfl rfl⟩
    · rw [List.drop_of_length_le (by omega)] at hB2
      refine qtail (f := fI) (cxg _) (e := 3) rfl (fun _ => rfl) hq2 fun oq' hq' hqh => ?_
      exact ⟨(o2, D2, oq', Q2, v), ⟨ho2, hq', hB2, by dsimp only; omega⟩, by simp only [List.length_cons]; omega, Ent.mk (fun _ _ h => by rw [hqh]; exact h) rfl rfl⟩
  · cases Q with
    | cons x Q => simp at hqn; omega
    | nil =>
    exact ⟨[.hp o1.h], ⟨o1, rfl, rfl, by rw [← farF_eq, hXE, ← hB.fin]; exact ho1⟩, fun w' h => h.pick [0, 2] rfl rfl⟩
end Go.Proofs.Ytdjhgcpmipglfaa
