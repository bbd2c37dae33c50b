/- Contract of the model of layer 50: idle. Its premises are its own. -/
import Derived.Test.YtnlkffccobdbjaaGreatYXh
namespace Go.Proofs.YtnlkffccobdbjaaGreat
open Go Go.RowKit Go.Dw
def idJ (TT : List Tk) (SS : List Sn) (L : List Jb) (m : Nat) : List Int := (List.range SS.length).map fun k => if k < m then (L.foldl (idK TT k) (0, 0)).1 - (L.foldl (idK TT k) (0, 0)).2 else 0
theorem idJ_len (TT : List Tk) (SS : List Sn) (L : List Jb) (m : Nat) : (idJ TT SS L m).length = SS.length := by unfold idJ; simp
theorem idJ_get {TT : List Tk} {SS : List Sn} {L : List Jb} {m k : Nat} (h : k < (idJ TT SS L m).length) : (idJ TT SS L m)[k] = if k < m then (L.foldl (idK TT k) (0, 0)).1 - (L.foldl (idK TT k) (0, 0)).2 else 0 := by
  simp only [idJ, List.getElem_map, List.getElem_range]
theorem idJ_succ {TT : List Tk} {SS : List Sn} {L : List Jb} {m : Nat} : (idJ TT SS L m).set m ((L.foldl (idK TT m) (0, 0)).1 - (L.foldl (idK TT m) (0, 0)).2) = idJ TT SS L (m + 1) := by
  apply List.ext_getElem
  · rw [List.length_set, idJ_len, idJ_len]
  · intro j h1 h2
    rw [List.getElem_set, idJ_get h2]
    by_cases h : m = j
    · subst h; rw [if_pos rfl, if_pos (by omega)]
    · have h3 : j < (idJ TT SS L m).length := by rw [idJ_len]; rw [idJ_len] at h2; exact h2
      rw [if_neg h, idJ_get h3]
      by_cases hj : j < m
      · rw [if_pos hj, if_pos (by omega)]
      · rw [if_neg hj, if_neg (by omega)]
theorem idJ_zero (TT : List Tk) (SS : List Sn) (L : List Jb) : idJ TT SS L 0 = List.replicate SS.length 0 := by
  apply List.ext_getElem
  · rw [idJ_len, List.length_replicate]
  · intro j h1 h2
    rw [idJ_get h1, List.getElem_replicate, if_neg (by omega)]
theorem idJ_all {TT : List Tk} {SS : List Sn} {L : List Jb} (h : ∀ j ∈ L, 0 ≤ j.2.1 ∧ j.2.1 < (SS.length : Int)) : idJ TT SS L SS.length = idF TT SS L := by
  obtain ⟨h1, h2⟩ := idF_get (TT := TT) h
  apply List.ext_getElem
  · rw [idJ_len, h1]
  · intro j g1 g2
    have hj : j < SS.length := by rw [idJ_len] at g1; exact g1
    have := h2 j hj
    rw [gD g2] at this
    rw [this, idJ_get g1, if_pos hj]
section
variable {a a' : Option Addr} {n c n' c' : Nat} {TT : List Tk} {SS : List Sn}
set_option maxRecDepth 10000 in
theorem idle50_spec {al : Option Addr} {nl cl : Nat} {L : List Jb} (w : World) (hT : Sl encT 4 (Hp.whole w) a n c TT) (hS : Sl encN 2 (Hp.whole w) a' n' c' SS) (hF : Fit TT) (hM : SS.length ≤ 8) (hL : Sl (encF fJ) 3 (Hp.whole w) al nl cl L) (hn : L.length = TT.length)
    (hJ : ∀ i, i < L.length → (jbA L i).1 = i ∧ (0 ≤ snA L i ∧ snA L i < (SS.length : Int)) ∧ 0 ≤ stA L i ∧ stA L i ≤ 1000000000000) :
    CallsE Tryz.prog 44 #[sv a n c a' n' c', .slice al nl cl] w (Ret w fun v cs => ∃ o : Dw.Os, v = o.v ∧ cs = [.hp o.h] ∧ OwnO fI 3 1 o (idF TT SS L)) := by
  have lT := hT.len
  have lS := hS.len
  have lL := hL.len
  have hFn := hF.n
  have hjs : ∀ j ∈ L, 0 ≤ j.2.1 ∧ j.2.1 < (SS.length : Int) := fun j hj => by
    obtain ⟨i, hi, rfl⟩ := List.mem_iff_getElem.1 hj
    have := (hJ i hi).2.1
    unfold snA at this
    rwa [show jbA L i = L[i] from gD hi] at this
  refine enter (X := cx 65) (cxg _) (args := [.agg #[.slice a n c, .slice a' n' c'], .slice al nl cl]) [.tmp 4] Tryz.func44 rfl rfl rfl rfl rfl ?_
  intro b2
  refine mkO (f := fI) (cxg _) (e := 3) rfl SS.length 0 rfl (by omega) (by omega) rfl (by omega) fun o13 ho13n ho13 => ?_
  have l13 := ho13.len
  rw [List.length_replicate] at l13
  refine NeedL.mk (Nat × Hp) (fun g => [(1, .v (.slice al nl cl)), (2, .bx 1 0), (5, .v o13.v), (15, .v (.int .i64 o13.n)), (16, .v (.int .i64 g.1))]) (fun g => [.hp (Hp.whole w), .box b2 [.slice a n c, .slice a' n' c'] 25, .hp g.2])
    (fun g => g.1 ≤ o13.n ∧ OwnO fI 3 1 ⟨o13.a, o13.n, o13.c, g.2⟩ (idJ TT SS L g.1)) (fun g => o13.n - g.1) (0, o13.h) ⟨Nat.zero_le _, by dsimp only; rw [idJ_zero]; exact ho13⟩ (Ent.mk (fun _ _ h => h) rfl rfl) ?_
  clear ho13
  rintro ⟨k, h0⟩ ⟨hk, ho⟩
  dsimp only at *
  refine bsplitd (fun h1 => ?_) (fun h1 => ?_)
  · have hkS : k < SS.length := by omega
    have kg : k < (idJ TT SS L k).length := by rw [idJ_len]; exact hkS
    refine NeedL.mk (Nat × (Int × Int) × Hp) (fun g => [(1, .v (.slice al nl cl)), (2, .bx 1 0), (5, .v o13.v), (6, .v (.int .i64 k)), (7, .v (.int .i64 g.2.1.2)), (15, .v (.int .i64 o13.n)), (16, .v (.int .i64 k)), (19, .v (.slice al nl cl)), (20, .v (.int .i64 nl)), (21, .v (.int .i64 g.1))]) (fun g => [.hp (Hp.whole w), .box b2 [.slice a n c, .slice a' n' c'] 25, .hp g.2.2])
      (fun g => g.1 ≤ nl ∧ g.2.1 = (L.take g.1).foldl (idK TT k) (0, 0) ∧ ((0 ≤ g.2.1.1 ∧ g.2.1.1 ≤ 2000000000000) ∧ 0 ≤ g.2.1.2 ∧ g.2.1.2 ≤ 1048576 * g.1) ∧ OwnO fI 3 1 ⟨o13.a, o13.n, o13.c, g.2.2⟩ ((idJ TT SS L k).set k g.2.1.1)) (fun g => nl - g.1) (0, (0, 0), h0)
      ⟨Nat.zero_le _, rfl, ⟨⟨Int.le_refl _, by show (0 : Int) ≤ 2000000000000; decide⟩, Int.le_refl _, by dsimp only; omega⟩, ?_⟩ (Ent.mk (fun _ _ h => h) rfl rfl) ?_
    · have e0 : (idJ TT SS L k).set k 0 = idJ TT SS L k := by
        have := List.set_getElem_self kg
        rw [idJ_get kg, if_neg (Nat.lt_irrefl _)] at this
        exact this
      dsimp only
      rw [e0]; exact ho
    clear ho
    rintro ⟨q, ⟨p1, p2⟩, h2⟩ ⟨hq, hp, ⟨⟨hb1, hb2⟩, hb3, hb4⟩, ho⟩
    dsimp only at *
    have kg2 : k < ((idJ TT SS L k).set k p1).length := by rw [List.length_set]; exact kg
    have hgx : ((idJ TT SS L k).set k p1)[k] = p1 := by simp
    have sO := OwnO.sl (f := fI) (fun _ => rfl) (by decide) ho
    refine bsplitd (fun h3 => ?_) (fun h3 => ?_)
    · have hqL : q < L.length := by omega
      have hqT : q < TT.length := by omega
      obtain ⟨j1', _, j3a, j3b⟩ := hJ q hqL
      unfold stA at j3a j3b
      rw [show jbA L q = L[q] from gD hqL] at j1' j3a j3b
      obtain ⟨⟨j1, j2, j3⟩, hj⟩ : ∃ j, j = L[q] := ⟨_, rfl⟩
      have hst : (L.take (q + 1)).foldl (idK TT k) (0, 0) = idK TT k (p1, p2) (j1, j2, j3) := by
        rw [List.take_succ_eq_append_getElem hqL, List.foldl_append, ← hp, ← hj]; rfl
      rw [← hj] at j1' j3a j3b
      dsimp only at j1' j3a j3b
      obtain ⟨u, hu⟩ : ∃ u, u = TT[q] := ⟨_, rfl⟩
      have hdu := hF.du u (by rw [hu]; exact List.getElem_mem hqT)
      have hen : endF TT (j1, j2, j3) = j3 + u.du := by unfold endF; rw [j1', Int.toNat_natCast, tk_get hqT, hu]
      have hda : duA TT j1.toNat = u.du := by rw [j1', Int.toNat_natCast, du_get hqT, hu]
      refine idx (cxg _) (e := 52) rfl hL q rfl hqL (fun b9 o9 cs hcs hR hcell3 => ?_)
      rw [← hj] at hR
      subst hR
      refine ldn (cxg _) (i := 0) rfl hcell3 rfl ?_
      intro b9
      refine bsplitd (fun (h4 : j2 = (k : Int)) => ?_) (fun (h4 : ¬ j2 = (k : Int)) => ?_)
      · have hst2 : (L.take (q + 1)).foldl (idK TT k) (0, 0) = (max p1 (j3 + u.du), p2 + u.du) := by rw [hst]; unfold idK; dsimp only; rw [if_pos h4, hen, hda]
        refine idx (cxg _) (e := 64) rfl hT q rfl hqT (fun b9 o9 cs hcs hR hcell5 => ?_)
        rw [← hu] at hR
        obtain ⟨a3, n3, c3, rfl, hs3⟩ := hR
        refine ld1 (cxg _) (i := 0) rfl (hcell5 1 _ rfl) rfl ?_
        refine nw (by omega) (by omega) ?_
        refine NeedD.by_order (cxg _) (.take 0 <| .take 1 <| .take 2 <| .take 3 <| .take 4 <| .take 5 <| .take 6 <| .take 7 <| .take 8 <| .take 9 <| .take 10 <| .take 11 <| .take 12 <| .take 13 <| .take 14 <| .run 15 <| .take 16 <| .run 17 <| .done) (by kernel_rfl) ?_
        refine idx (cxg _) (e := 3) rfl sO k rfl kg2 (fun b9 o9 cs hcs hR hcell6 => ?_)
        rw [hgx] at hR
        subst hR
        refine ld1 (cxg _) (i := 2) rfl (hcell6 0 _ rfl) rfl ?_
        refine idx (cxg _) (e := 64) rfl hT q rfl hqT (fun b9 o9 cs hcs hR hcell7 => ?_)
        rw [← hu] at hR
        obtain ⟨a4, n4, c4, rfl, hs4⟩ := hR
        refine ld1 (cxg _) (i := 0) rfl (hcell7 1 _ rfl) rfl ?_
        refine nw (by dsimp only; omega) (by dsimp only; omega) ?_
        refine qMax ?_
        refine ⟨(by repeat first | exact trivial | refine ⟨.inl rfl, ?_⟩ | refine ⟨.inr rfl, ?_⟩), ?_⟩
        refine oidx1 (cxg _) (e := 3) rfl rfl (o := ⟨o13.a, o13.n, o13.c, h2⟩) ho k rfl kg2 fun b7 hb7 => ?_
        refine osto (g := fun x : Int => .int .i64 x) (fun _ => rfl) (cxg _) (i := 2) (o := ⟨o13.a, o13.n, o13.c, h2⟩) rfl hb7 ho kg2 rfl rfl (max p1 (j3 + u.du)) rfl rfl rfl fun o2 f1 f2 f3 ho2 => ?_
        obtain ⟨xa, xn, xc, h3'⟩ := o2
        simp only at f1 f2 f3
        subst f1 f2 f3
        rw [List.set_set] at ho2
        refine nw (by omega) (by omega) ?_
        exact ⟨(q + 1, (max p1 (j3 + u.du), p2 + u.du), h3'), ⟨by dsimp only; omega, hst2.symm, ⟨⟨by dsimp only; omega, by dsimp only; omega⟩, by dsimp only; omega, by dsimp only; omega⟩, ho2⟩, by dsimp only; omega, Ent.mk (fun _ _ h => h.pick [0, 1, 2] rfl rfl) rfl rfl⟩
      · have hst2 : (L.take (q + 1)).foldl (idK TT k) (0, 0) = (p1, p2) := by rw [hst]; unfold idK; dsimp only; rw [if_neg h4]
        refine nw (by omega) (by omega) ?_
        exact ⟨(q + 1, (p1, p2), h2), ⟨by dsimp only; omega, hst2.symm, ⟨⟨hb1, hb2⟩, hb3, by dsimp only; omega⟩, ho⟩, by dsimp only; omega, Ent.mk (fun _ _ h => h.pick [0, 1, 2] rfl rfl) rfl rfl⟩
    · rw [List.take_of_length_le (by omega)] at hp
      have e2 : (idJ TT SS L k).set k (p1 - p2) = idJ TT SS L (k + 1) := by rw [← idJ_succ, ← hp]
      refine idx (cxg _) (e := 3) rfl sO k rfl kg2 (fun b9 o9 cs hcs hR hcell9 => ?_)
      rw [hgx] at hR
      subst hR
      refine ld1 (cxg _) (i := 2) rfl (hcell9 0 _ rfl) rfl ?_
      refine nw (by omega) (by omega) ?_
      refine oidx1 (cxg _) (e := 3) rfl rfl (o := ⟨o13.a, o13.n, o13.c, h2⟩) ho k rfl kg2 fun b7 hb7 => ?_
      refine osto (g := fun x : Int => .int .i64 x) (fun _ => rfl) (cxg _) (i := 2) (o := ⟨o13.a, o13.n, o13.c, h2⟩) rfl hb7 ho kg2 rfl rfl (p1 - p2) rfl rfl rfl fun o2 f1 f2 f3 ho2 => ?_
      obtain ⟨xa, xn, xc, h3'⟩ := o2
      simp only at f1 f2 f3
      subst f1 f2 f3
      rw [List.set_set, e2] at ho2
      refine nw (by omega) (by omega) ?_
      exact ⟨(k + 1, h3'), ⟨by dsimp only; omega, ho2⟩, by dsimp only; omega, Ent.mk (fun _ _ h => h) rfl rfl⟩
  · have hkn : k = SS.length := by omega
    rw [hkn, idJ_all hjs] at ho
    exact ⟨[.hp h0], ⟨⟨o13.a, o13.n, o13.c, h0⟩, rfl, rfl, ho⟩, fun w' h => h.pick [0, 2] rfl rfl⟩
end
end Go.Proofs.YtnlkffccobdbjaaGreat
