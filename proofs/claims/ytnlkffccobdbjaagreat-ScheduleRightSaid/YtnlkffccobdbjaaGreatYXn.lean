/- Contract of the model of layer 50: early. Its premises are its own. -/
import Derived.Test.YtnlkffccobdbjaaGreatYXi
namespace Go.Proofs.YtnlkffccobdbjaaGreat
open Go Go.RowKit Go.Dw
/-- begins that are raised: not above those of E -/
structure EvI (TT : List Tk) (L E D : List Jb) : Prop where
  len : D.length = TT.length
  tk : ∀ i, i < TT.length → (jbA D i).1 = i
  sn : ∀ i, i < TT.length → snA D i = snA L i
  st : ∀ i, i < TT.length → 0 ≤ stA D i ∧ stA D i ≤ stA E i
def befP (L : List Jb) (i k : Nat) : Prop := k ≠ i ∧ snA L k = snA L i ∧ stA L k < stA L i
/-- what must end before task i begins, in D -/
def clsP (TT : List Tk) (L D : List Jb) (i : Nat) : Prop := (∀ k, inL (afA TT i) k → stA D k + duA TT k ≤ stA D i) ∧ ∀ k, k < TT.length → befP L i k → stA D k + duA TT k ≤ stA D i
def muE (TT : List Tk) (E D : List Jb) : Nat := ((List.range TT.length).map fun i => (stA E i - stA D i).toNat).sum
theorem jb_set {D : List Jb} {i j : Nat} {x : Jb} (hi : i < D.length) : jbA (D.set i x) j = if i = j then x else jbA D j := by unfold jbA; exact gSet hi
theorem EvI.up {TT : List Tk} {L E D : List Jb} (h : EvI TT L E D) {i : Nat} (hi : i < TT.length) {m : Int} (h0 : 0 ≤ m) (h1 : m ≤ stA E i) : EvI TT L E (D.set i ((i : Int), snA L i, m)) := by
  have hl := h.len
  have key := fun j => jb_set (D := D) (i := i) (j := j) (x := ((i : Int), snA L i, m)) (by omega)
  refine ⟨by rw [List.length_set, hl], fun j hj => ?_, fun j hj => ?_, fun j hj => ?_⟩
  · rw [key]
    split
    · rename_i e; rw [e]
    · exact h.tk j hj
  · show (jbA (D.set i ((i : Int), snA L i, m)) j).2.1 = snA L j
    rw [key]
    split
    · rename_i e; rw [← e]
    · exact h.sn j hj
  · unfold stA
    rw [key]
    split
    · rename_i e; subst e; exact ⟨h0, h1⟩
    · exact h.st j hj
theorem mu_up {TT : List Tk} {L E D : List Jb} (h : EvI TT L E D) {i : Nat} (hi : i < TT.length) {m : Int} (h1 : m ≤ stA E i) (hlt : stA D i < m) : muE TT E (D.set i ((i : Int), snA L i, m)) < muE TT E D := by
  have hl := h.len
  have key := fun j => jb_set (D := D) (i := i) (j := j) (x := ((i : Int), snA L i, m)) (by omega)
  have ks : ∀ j, stA (D.set i ((i : Int), snA L i, m)) j = if i = j then m else stA D j := fun j => by
    unfold stA; rw [key]
    split <;> rfl
  unfold muE
  refine sum_lt (fun j hj => ?_) i (List.mem_range.2 hi) ?_
  · rw [ks]
    split
    · rename_i e; subst e; omega
    · omega
  · rw [ks, if_pos rfl]; omega
theorem ev_end {TT : List Tk} {SS : List Sn} {L D : List Jb} (hF : Fit TT) (hL : Sch TT SS L) (h : EvI TT L (earF TT SS L) D) (hc : ∀ i, i < TT.length → clsP TT L D i) : D = earF TT SS L := by
  have hE := ear_p hF hL
  have hst : ∀ i, i < TT.length → stA D i = stA (earF TT SS L) i := fun i hi => by
    refine Int.le_antisymm (h.st i hi).2 (ear_below hF hL hE (stA D) (fun i hi => (h.st i hi).1) (fun i hi x hx => (hc i hi).1 _ ⟨x, hx, rfl⟩) (fun i hi j hj hs hlt => (hc i hi).2 j hj ⟨fun e => by subst e; omega, hs, hlt⟩) _ i hi (Nat.le_refl _))
  apply List.ext_getElem (by rw [h.len, hE.sch.len])
  intro i h1 h2
  have hi : i < TT.length := by rw [← h.len]; exact h1
  have e1 : D[i] = jbA D i := (gD h1).symm
  have e2 : (earF TT SS L)[i] = jbA (earF TT SS L) i := (gD h2).symm
  rw [e1, e2]
  exact Prod.ext ((h.tk i hi).trans (hE.sch.tk i hi).symm) (Prod.ext ((h.sn i hi).trans (hE.sn i hi).symm) (hst i hi))
section
variable {a a' : Option Addr} {n c n' c' : Nat} {TT : List Tk} {SS : List Sn}
set_option maxHeartbeats 1000000 in
set_option maxRecDepth 10000 in
theorem early50_spec {al : Option Addr} {nl cl : Nat} {L : List Jb} (w : World) (hT : Sl encT 4 (Hp.whole w) a n c TT) (hF : Fit TT) (hL : Sl (encF fJ) 3 (Hp.whole w) al nl cl L) (hS : Sch TT SS L) :
    CallsE Tryz.prog 45 #[sv a n c a' n' c', .slice al nl cl] w (Ret w fun v cs => ∃ o : Dw.Os, v = o.v ∧ cs = [.hp o.h] ∧ OwnO fJ 52 3 o (earF TT SS L)) := by
  have lT := hT.len
  have lL := hL.len
  have hFn := hF.n
  have hE := ear_p hF hS
  have hSl := hS.len
  have hgL : ∀ i (hi : i < L.length), L[i] = ((i : Int), snA L i, stA L i) := fun i hi => by
    have e : jbA L i = L[i] := gD hi
    rw [← e]
    exact Prod.ext (hS.tk i (by omega)) rfl
  obtain ⟨E, hEE⟩ : ∃ E, E = earF TT SS L := ⟨_, rfl⟩
  rw [← hEE] at hE
  refine enter (X := cx 120) (cxg _) (args := [.agg #[.slice a n c, .slice a' n' c'], .slice al nl cl]) [.tmp 4] Tryz.func45 rfl rfl rfl rfl rfl ?_
  intro b2
  refine call (fun w' hm => cloneJobs_spec w' (hL.mono (encF_mono _) (hm 0 _ rfl)) (by omega)) ?_
  rintro _ _ ⟨oC, rfl, rfl, hoC⟩
  have lC := hoC.len
  refine NeedL.mk (Nat × List Jb × Hp) (fun g => [(1, .v (.slice al nl cl)), (2, .bx 1 0), (5, .v oC.v), (16, .v (.int .i64 oC.n)), (17, .v (.int .i64 g.1))]) (fun g => [.hp (Hp.whole w), .box b2 [.slice a n c, .slice a' n' c'] 25, .hp g.2.2])
    (fun g => g.1 ≤ oC.n ∧ (g.2.1.length = TT.length ∧ (∀ i, i < TT.length → (jbA g.2.1 i).1 = i ∧ snA g.2.1 i = snA L i) ∧ ∀ i, i < g.1 → stA g.2.1 i = 0) ∧ OwnO fJ 52 3 ⟨oC.a, oC.n, oC.c, g.2.2⟩ g.2.1) (fun g => oC.n - g.1) (0, L, oC.h)
    ⟨Nat.zero_le _, ⟨hSl, fun i hi => ⟨hS.tk i hi, rfl⟩, fun i hi => absurd hi (Nat.not_lt_zero i)⟩, hoC⟩ (Ent.mk (fun _ _ h => h) rfl rfl) ?_
  clear hoC
  rintro ⟨k, D, h⟩ ⟨hk, ⟨hD1, hD2, hD3⟩, ho⟩
  dsimp only at *
  refine bsplitd (fun h1 => ?_) (fun h1 => ?_)
  · have hkT : k < TT.length := by omega
    have hkD : k < D.length := by omega
    have hDk : D[k] = ((k : Int), snA L k, stA D k) := by
      have e : jbA D k = D[k] := gD hkD
      rw [← e]
      exact Prod.ext (hD2 k hkT).1 (Prod.ext (hD2 k hkT).2 rfl)
    refine oidxN (cxg _) (e := 52) rfl (o := ⟨oC.a, oC.n, oC.c, h⟩) ho k rfl hkD fun b7 hb7 => ?_
    refine ostF (f := fJ) (cxg _) (sz := 3) (fo := 2) (fun _ => rfl) (i := 2) (o := ⟨oC.a, oC.n, oC.c, h⟩) rfl hb7 ho hkD (by decide) rfl rfl ((k : Int), snA L k, 0) rfl rfl (by rw [hDk]; rfl) fun o2 f1 f2 f3 ho2 => ?_
    obtain ⟨xa, xn, xc, h3⟩ := o2
    simp only at f1 f2 f3
    subst f1 f2 f3
    refine nw (by omega) (by omega) ?_
    have key := fun j => jb_set (D := D) (i := k) (j := j) (x := ((k : Int), snA L k, 0)) hkD
    refine ⟨(k + 1, D.set k ((k : Int), snA L k, 0), h3), ⟨by dsimp only; omega, ⟨by dsimp only; rw [List.length_set, hD1], fun i hi => ?_, fun i hi => ?_⟩, ho2⟩, by dsimp only; omega, Ent.mk (fun _ _ h => h) rfl rfl⟩
    · show (jbA (D.set k ((k : Int), snA L k, 0)) i).1 = i ∧ (jbA (D.set k ((k : Int), snA L k, 0)) i).2.1 = snA L i
      rw [key]
      split
      · rename_i e; subst e; exact ⟨rfl, rfl⟩
      · exact hD2 i hi
    · dsimp only at hi
      show (jbA (D.set k ((k : Int), snA L k, 0)) i).2.2 = 0
      rw [key]
      split
      · rfl
      · exact hD3 i (by omega)
  have hI0 : EvI TT L E D := ⟨hD1, fun i hi => (hD2 i hi).1, fun i hi => (hD2 i hi).2, fun i hi => by rw [hD3 i (by omega)]; exact ⟨Int.le_refl _, (hE.sch.s0 i hi).1⟩⟩
  clear hD1 hD2 hD3 hk h1
  refine NeedL.mk (Bool × List Jb × Hp) (fun g => [(1, .v (.slice al nl cl)), (2, .bx 1 0), (5, .v oC.v), (7, .v (.bool g.1))]) (fun g => [.hp (Hp.whole w), .box b2 [.slice a n c, .slice a' n' c'] 25, .hp g.2.2])
    (fun g => EvI TT L E g.2.1 ∧ (g.1 = false → ∀ i, i < TT.length → clsP TT L g.2.1 i) ∧ OwnO fJ 52 3 ⟨oC.a, oC.n, oC.c, g.2.2⟩ g.2.1) (fun g => 2 * muE TT E g.2.1 + (if g.1 then 1 else 0)) (true, D, h)
    ⟨hI0, (fun e => by cases e), ho⟩ (Ent.mk (fun _ _ h => h) rfl rfl) ?_
  clear hI0 ho
  rintro ⟨b, D0, h⟩ ⟨hI0, hcl0, ho⟩
  dsimp only at *
  refine bsplit (fun h1 => ?_) (fun h1 => ?_)
  · subst h1
    clear hcl0
    refine NeedL.mk (Bool × Nat × List Jb × Hp) (fun g => [(1, .v (.slice al nl cl)), (2, .bx 1 0), (5, .v oC.v), (7, .v (.bool g.1)), (27, .v (.int .i64 oC.n)), (28, .v (.int .i64 g.2.1))]) (fun g => [.hp (Hp.whole w), .box b2 [.slice a n c, .slice a' n' c'] 25, .hp g.2.2.2])
      (fun g => g.2.1 ≤ oC.n ∧ EvI TT L E g.2.2.1 ∧ (g.1 = false → g.2.2.1 = D0 ∧ ∀ i, i < g.2.1 → clsP TT L D0 i) ∧ (g.1 = true → muE TT E g.2.2.1 < muE TT E D0) ∧ OwnO fJ 52 3 ⟨oC.a, oC.n, oC.c, g.2.2.2⟩ g.2.2.1) (fun g => oC.n - g.2.1) (false, 0, D0, h)
      ⟨Nat.zero_le _, hI0, fun _ => ⟨rfl, fun i hi => absurd hi (Nat.not_lt_zero i)⟩, (fun e => by cases e), ho⟩ (Ent.mk (fun _ _ h => h) rfl rfl) ?_
    clear ho
    rintro ⟨b, i, D, h⟩ ⟨hi, hI, hbf, hbt, ho⟩
    dsimp only at *
    have sO := OwnO.sl (f := fJ) (fun _ => rfl) (by decide) ho
    have hDl := hI.len
    have hgD : ∀ k (hk : k < D.length), D[k] = ((k : Int), snA L k, stA D k) := fun k hk => by
      have e : jbA D k = D[k] := gD hk
      rw [← e]
      exact Prod.ext (hI.tk k (by omega)) (Prod.ext (hI.sn k (by omega)) rfl)
    have hrD : ∀ k, k < TT.length → 0 ≤ stA D k ∧ stA D k ≤ 25165824 := fun k hk => ⟨(hI.st k hk).1, Int.le_trans (hI.st k hk).2 (hE.sch.s0 k hk).2⟩
    refine bsplitd (fun h4 => ?_) (fun h4 => ?_)
    · have hiT : i < TT.length := by omega
      have hiL : i < L.length := by omega
      have hiD : i < D.length := by omega
      obtain ⟨t, ht⟩ : ∃ t, t = TT[i] := ⟨_, rfl⟩
      have htm : t ∈ TT := by rw [ht]; exact List.getElem_mem hiT
      have haf : afA TT i = t.af := by unfold afA; rw [tk_get hiT, ← ht]
      have hal := hF.al t htm
      refine idx (cxg _) (e := 64) rfl hT i rfl hiT (fun b9 o9 cs hcs hR hcell5 => ?_)
      rw [← ht] at hR
      obtain ⟨a3, n3, c3, rfl, hs3⟩ := hR
      have l3 := hs3.len
      refine ld1 (cxg _) (i := 0) rfl (hcell5 3 _ rfl) rfl ?_
      refine NeedL.mk (Nat × Int) (fun g => [(1, .v (.slice al nl cl)), (2, .bx 1 0), (5, .v oC.v), (7, .v (.bool b)), (8, .v (.int .i64 i)), (9, .v (.int .i64 g.2)), (27, .v (.int .i64 oC.n)), (28, .v (.int .i64 i)), (36, .v (.slice a3 n3 c3)), (37, .v (.int .i64 n3)), (38, .v (.int .i64 g.1))]) (fun _ => [.hp (Hp.whole w), .box b2 [.slice a n c, .slice a' n' c'] 25, .hp h])
        (fun g => g.1 ≤ n3 ∧ MaxOf (inL (t.af.take g.1)) (fun k => stA D k + duA TT k) g.2) (fun g => n3 - g.1) (0, 0) ⟨Nat.zero_le _, MaxOf.none (inL_nil)⟩ (Ent.mk (fun _ _ h => h) rfl rfl) ?_
      rintro ⟨q, m⟩ ⟨hq, hm⟩
      dsimp only at *
      refine bsplitd (fun h6 => ?_) (fun h6 => ?_)
      · have hqt : q < t.af.length := by omega
        obtain ⟨x, hx⟩ : ∃ x, x = t.af[q] := ⟨_, rfl⟩
        have hxm : x ∈ t.af := by rw [hx]; exact List.getElem_mem hqt
        have hxr := hF.ar t htm x hxm
        obtain ⟨v, rfl⟩ : ∃ v : Nat, x = v := ⟨x.toNat, by omega⟩
        have hv : v < TT.length := by omega
        have hvD : v < D.length := by omega
        have hvr := hrD v hv
        have hdd := hF.d hv
        obtain ⟨u, hu⟩ : ∃ u, u = TT[v] := ⟨_, rfl⟩
        have hdu : duA TT v = u.du := by rw [du_get hv, hu]
        have hDv := hgD v hvD
        obtain ⟨s, hs⟩ : ∃ s, s = stA D v := ⟨_, rfl⟩
        obtain ⟨z, hz⟩ : ∃ z, z = snA L v := ⟨_, rfl⟩
        rw [← hs, ← hz] at hDv
        rw [← hs] at hvr
        have hst : MaxOf (inL (t.af.take (q + 1))) (fun k => stA D k + duA TT k) (max m (s + u.du)) := by
          have := hm.add v
          rw [← hs, hdu] at this
          refine this.congr (fun k => ?_) fun _ _ => rfl
          rw [List.take_succ_eq_append_getElem hqt, inL_snoc, ← hx, Int.toNat_natCast]
        rw [hdu] at hdd
        refine idx (cxg _) (e := 3) rfl hs3 q rfl hqt (fun b9 o9 cs hcs hR hcell7 => ?_)
        subst hR
        rw [← hx] at hcell7
        refine ld1 (cxg _) (i := 0) rfl (hcell7 0 _ rfl) rfl ?_
        refine NeedD.by_order (cxg _) (.take 0 <| .take 1 <| .take 2 <| .take 3 <| .take 4 <| .take 5 <| .take 6 <| .take 7 <| .take 8 <| .take 9 <| .take 10 <| .take 11 <| .take 12 <| .run 13 <| .take 14 <| .done) (by kernel_rfl) ?_
        refine idx (cxg _) (e := 52) rfl sO v rfl hvD (fun b9 o9 cs hcs hR hcell8 => ?_)
        rw [hDv] at hR
        subst hR
        refine ld1 (cxg _) (i := 2) rfl (hcell8 2 _ rfl) rfl ?_
        refine idx (cxg _) (e := 64) rfl hT v rfl hv (fun b9 o9 cs hcs hR hcell9 => ?_)
        rw [← hu] at hR
        obtain ⟨a4, n4, c4, rfl, hs4⟩ := hR
        refine ld1 (cxg _) (i := 0) rfl (hcell9 1 _ rfl) rfl ?_
        refine nw (by dsimp only; omega) (by dsimp only; omega) ?_
        refine qMax ?_
        refine ⟨(by repeat first | exact trivial | refine ⟨.inl rfl, ?_⟩ | refine ⟨.inr rfl, ?_⟩), ?_⟩
        refine nw (by omega) (by omega) ?_
        exact ⟨(q + 1, max m (s + u.du)), ⟨by dsimp only; omega, hst⟩, by dsimp only; omega, Ent.mk (fun _ _ h => h) rfl rfl⟩
      · rw [List.take_of_length_le (by omega)] at hm
        refine NeedL.mk (Nat × Int) (fun g => [(1, .v (.slice al nl cl)), (2, .bx 1 0), (5, .v oC.v), (7, .v (.bool b)), (8, .v (.int .i64 i)), (9, .v (.int .i64 g.2)), (27, .v (.int .i64 oC.n)), (28, .v (.int .i64 i)), (58, .v (.int .i64 oC.n)), (59, .v (.int .i64 g.1))]) (fun _ => [.hp (Hp.whole w), .box b2 [.slice a n c, .slice a' n' c'] 25, .hp h])
          (fun g => g.1 ≤ oC.n ∧ MaxOf (fun k => inL t.af k ∨ (k < g.1 ∧ befP L i k)) (fun k => stA D k + duA TT k) g.2) (fun g => oC.n - g.1) (0, m) ⟨Nat.zero_le _, hm.congr (fun k => ⟨.inl, fun h => h.elim id fun h => absurd h.1 (Nat.not_lt_zero k)⟩) fun _ _ => rfl⟩ (Ent.mk (fun _ _ h => h) rfl rfl) ?_
        clear hm hq h6
        rintro ⟨q, m⟩ ⟨hq, hm⟩
        dsimp only at *
        refine bsplitd (fun h10 => ?_) (fun h10 => ?_)
        · have hqT : q < TT.length := by omega
          have hqL : q < L.length := by omega
          have hqD : q < D.length := by omega
          have hLq := hgL q hqL
          have hLi := hgL i hiL
          obtain ⟨sq, hsq⟩ : ∃ s, s = snA L q := ⟨_, rfl⟩
          obtain ⟨si, hsi⟩ : ∃ s, s = snA L i := ⟨_, rfl⟩
          obtain ⟨tq, htq⟩ : ∃ s, s = stA L q := ⟨_, rfl⟩
          obtain ⟨ti, hti⟩ : ∃ s, s = stA L i := ⟨_, rfl⟩
          rw [← hsq, ← htq] at hLq
          rw [← hsi, ← hti] at hLi
          refine NeedD.cut Bool (fun g => [(1, .v (.slice al nl cl)), (2, .bx 1 0), (5, .v oC.v), (7, .v (.bool b)), (8, .v (.int .i64 i)), (9, .v (.int .i64 m)), (12, .v (.int .i64 q)), (27, .v (.int .i64 oC.n)), (28, .v (.int .i64 i)), (58, .v (.int .i64 oC.n)), (59, .v (.int .i64 q)), (90, .v (.bool g))]) (fun _ => [.hp (Hp.whole w), .box b2 [.slice a n c, .slice a' n' c'] 25, .hp h]) (fun g => g = true ↔ befP L i q) (NeedD.by_order (cxg _) (.take 0 <| .take 1 <| .take 2 <| .take 3 <| .take 4 <| .take 5 <| .take 6 <| .take 7 <| .take 8 <| .take 9 <| .take 10 <| .take 11 <| .take 12 <| .take 13 <| .take 14 <| .take 15 <| .take 16 <| .take 17 <| .take 18 <| .take 19 <| .take 20 <| .take 21 <| .take 22 <| .take 23 <| .take 24 <| .take 25 <| .take 26 <| .take 27 <| .take 28 <| .done) (by kernel_rfl) ?_) ?_
          · refine bsplitd (fun h11 => ?_) (fun h11 => ?_)
            · refine idx (cxg _) (e := 52) rfl hL q rfl hqL (fun b9 o9 cs hcs hR hcell12 => ?_)
              rw [hLq] at hR
              subst hR
              refine ld1 (cxg _) (i := 0) rfl (hcell12 1 _ rfl) rfl ?_
              refine idx (cxg _) (e := 52) rfl hL i rfl hiL (fun b9 o9 cs hcs hR hcell13 => ?_)
              rw [hLi] at hR
              subst hR
              refine ld1 (cxg _) (i := 0) rfl (hcell13 1 _ rfl) rfl ?_
              refine bsplitd (fun (h14 : sq = si) => ?_) (fun (h14 : ¬ sq = si) => ?_)
              · refine idx (cxg _) (e := 52) rfl hL q rfl hqL (fun b9 o9 cs hcs hR hcell15 => ?_)
                rw [hLq] at hR
                subst hR
                refine ld1 (cxg _) (i := 0) rfl (hcell15 2 _ rfl) rfl ?_
                refine idx (cxg _) (e := 52) rfl hL i rfl hiL (fun b9 o9 cs hcs hR hcell16 => ?_)
                rw [hLi] at hR
                subst hR
                refine ld1 (cxg _) (i := 0) rfl (hcell16 2 _ rfl) rfl ?_
                refine ⟨decide (tq < ti), ?_, Ent.mk (fun _ _ h => h) rfl rfl⟩
                rw [decide_eq_true_eq]
                unfold befP
                rw [← hsq, ← hsi, ← htq, ← hti]
                exact ⟨fun h => ⟨by omega, h14, h⟩, fun h => h.2.2⟩
              · refine ⟨false, ?_, Ent.mk (fun _ _ h => h) rfl rfl⟩
                unfold befP
                rw [← hsq, ← hsi]
                exact ⟨(fun h => by cases h), fun h => absurd h.2.1 h14⟩
            · refine ⟨false, ?_, Ent.mk (fun _ _ h => h) rfl rfl⟩
              unfold befP
              exact ⟨(fun h => by cases h), fun h => absurd (show (q : Int) ≠ i by omega) h11⟩
          rintro g hg hsat
          dsimp only
          refine bsplit (fun h17 => ?_) (fun h17 => ?_)
          · have hbP := hg.1 h17
            have hvr := hrD q hqT
            have hdd := hF.d hqT
            obtain ⟨u, hu⟩ : ∃ u, u = TT[q] := ⟨_, rfl⟩
            have hdu : duA TT q = u.du := by rw [du_get hqT, hu]
            have hDv := hgD q hqD
            obtain ⟨s, hs⟩ : ∃ s, s = stA D q := ⟨_, rfl⟩
            rw [← hs, ← hsq] at hDv
            rw [← hs] at hvr
            have hst : MaxOf (fun k => inL t.af k ∨ (k < q + 1 ∧ befP L i k)) (fun k => stA D k + duA TT k) (max m (s + u.du)) := by
              have := hm.add q
              rw [← hs, hdu] at this
              refine this.congr (fun k => ?_) fun _ _ => rfl
              constructor
              · rintro ((h | h) | rfl)
                · exact .inl h
                · exact .inr ⟨by omega, h.2⟩
                · exact .inr ⟨by omega, hbP⟩
              · rintro (h | h)
                · exact .inl (.inl h)
                · by_cases hk : k = q
                  · exact .inr hk
                  · exact .inl (.inr ⟨by omega, h.2⟩)
            rw [hdu] at hdd
            refine NeedD.by_order (cxg _) (.take 0 <| .take 1 <| .take 2 <| .take 3 <| .take 4 <| .take 5 <| .take 6 <| .take 7 <| .take 8 <| .take 9 <| .take 10 <| .take 11 <| .take 12 <| .run 13 <| .take 14 <| .done) (by kernel_rfl) ?_
            refine idx (cxg _) (e := 52) rfl sO q rfl hqD (fun b9 o9 cs hcs hR hcell18 => ?_)
            rw [hDv] at hR
            subst hR
            refine ld1 (cxg _) (i := 2) rfl (hcell18 2 _ rfl) rfl ?_
            refine idx (cxg _) (e := 64) rfl hT q rfl hqT (fun b9 o9 cs hcs hR hcell19 => ?_)
            rw [← hu] at hR
            obtain ⟨a4, n4, c4, rfl, hs4⟩ := hR
            refine ld1 (cxg _) (i := 0) rfl (hcell19 1 _ rfl) rfl ?_
            refine nw (by dsimp only; omega) (by dsimp only; omega) ?_
            refine qMax ?_
            refine ⟨(by repeat first | exact trivial | refine ⟨.inl rfl, ?_⟩ | refine ⟨.inr rfl, ?_⟩), ?_⟩
            refine nw (by omega) (by omega) ?_
            exact ⟨(q + 1, max m (s + u.du)), ⟨by dsimp only; omega, hst⟩, by dsimp only; omega, Ent.mk (fun _ _ h => h) rfl rfl⟩
          · have hbP : ¬ befP L i q := fun h => by have := hg.2 h; rw [h17] at this; cases this
            refine nw (by omega) (by omega) ?_
            refine ⟨(q + 1, m), ⟨by dsimp only; omega, hm.congr (fun k => ?_) fun _ _ => rfl⟩, by dsimp only; omega, Ent.mk (fun _ _ h => h) rfl rfl⟩
            dsimp only
            constructor
            · rintro (h | h)
              · exact .inl h
              · exact .inr ⟨by omega, h.2⟩
            · rintro (h | h)
              · exact .inl h
              · by_cases hk : k = q
                · rw [hk] at h; exact absurd h.2 hbP
                · exact .inr ⟨by omega, h.2⟩
        · have hqe : q = TT.length := by omega
          subst hqe
          have hm0 := hm.z
          have hmE : m ≤ stA E i := hm.le (hE.sch.s0 i hiT).1 fun k hk => by
            rcases hk with ⟨x, hx, e⟩ | ⟨hk, h1, h2, h3⟩
            · have hxr := hF.ar t htm x hx
              have hkT : k < TT.length := by omega
              have g1 := hE.sch.pr i hiT x (by rw [haf]; exact hx)
              rw [e] at g1
              have := (hI.st k hkT).2
              omega
            · have g1 := hE.sq i hiT k hk h2 h3
              have := (hI.st k hk).2
              omega
          have hDi := hgD i hiD
          obtain ⟨s, hs⟩ : ∃ s, s = stA D i := ⟨_, rfl⟩
          obtain ⟨z, hz⟩ : ∃ z, z = snA L i := ⟨_, rfl⟩
          rw [← hs, ← hz] at hDi
          refine idx (cxg _) (e := 52) rfl sO i rfl hiD (fun b9 o9 cs hcs hR hcell20 => ?_)
          rw [hDi] at hR
          subst hR
          refine ld1 (cxg _) (i := 2) rfl (hcell20 2 _ rfl) rfl ?_
          refine bsplitd (fun (h21 : m > s) => ?_) (fun (h21 : ¬ m > s) => ?_)
          · have hI2 := hI.up hiT hm0 hmE
            have hmu := mu_up hI hiT hmE (by rw [← hs]; omega)
            rw [← hz] at hI2 hmu
            refine oidxN (cxg _) (e := 52) rfl (o := ⟨oC.a, oC.n, oC.c, h⟩) ho i rfl hiD fun b7 hb7 => ?_
            refine ostF (f := fJ) (cxg _) (sz := 3) (fo := 2) (fun _ => rfl) (i := 2) (o := ⟨oC.a, oC.n, oC.c, h⟩) rfl hb7 ho hiD (by decide) rfl rfl ((i : Int), z, m) rfl rfl (by rw [hDi]; rfl) fun o2 f1 f2 f3 ho2 => ?_
            obtain ⟨xa, xn, xc, h3⟩ := o2
            simp only at f1 f2 f3
            subst f1 f2 f3
            refine nw (by omega) (by omega) ?_
            have hle : muE TT E D ≤ muE TT E D0 := by
              cases b with
              | false => rw [(hbf rfl).1]; exact Nat.le_refl _
              | true => exact Nat.le_of_lt (hbt rfl)
            exact ⟨(true, i + 1, D.set i ((i : Int), z, m), h3), ⟨by dsimp only; omega, hI2, (fun e => by cases e), fun _ => Nat.lt_of_lt_of_le hmu hle, ho2⟩, by dsimp only; omega, Ent.mk (fun _ _ h => h) rfl rfl⟩
          · refine nw (by omega) (by omega) ?_
            refine ⟨(b, i + 1, D, h), ⟨by dsimp only; omega, hI, fun e => ⟨(hbf e).1, fun j hj => ?_⟩, hbt, ho⟩, by dsimp only; omega, Ent.mk (fun _ _ h => h) rfl rfl⟩
            dsimp only at hj
            rcases Nat.lt_or_ge j i with hji | hji
            · exact (hbf e).2 j hji
            · obtain rfl : j = i := by omega
              rw [← (hbf e).1]
              refine ⟨fun k hk => ?_, fun k hk hb => ?_⟩
              · have := hm.u k (.inl (by rw [← haf]; exact hk))
                rw [← hs]; omega
              · have := hm.u k (.inr ⟨hk, hb⟩)
                rw [← hs]; omega
    · have hiN : i = TT.length := by omega
      refine ⟨(b, D, h), ⟨hI, fun e => by rw [(hbf e).1]; exact fun j hj => (hbf e).2 j (by omega), ho⟩, ?_, Ent.mk (fun _ _ h => h) rfl rfl⟩
      dsimp only
      cases b with
      | false => rw [(hbf rfl).1]; simp
      | true => have := hbt rfl; simp; omega
  · have hend := ev_end hF hS (by rw [← hEE]; exact hI0) (hcl0 h1)
    rw [hend] at ho
    exact ⟨[.hp h], ⟨⟨oC.a, oC.n, oC.c, h⟩, rfl, rfl, ho⟩, fun w' h => h.pick [0, 2] rfl rfl⟩
end
end Go.Proofs.YtnlkffccobdbjaaGreat
