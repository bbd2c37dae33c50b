/- Contracts of the graph's Components and Sinks. Their premises are their own. -/
import Derived.Test.YtdjhgcpmipglfaaGe
namespace Go.Proofs.Ytdjhgcpmipglfaa
open Go Go.RowKit Go.Dw

theorem checkF_ok {N : Int} {E : List (Int × Int)} (h : checkF N E = 0) : ∃ M : Nat, N = M ∧ Gr M E ∧ sortedF E = true := by
  unfold checkF at h
  split at h
  · cases h
  split at h
  · cases h
  split at h
  · cases h
  split at h
  · rename_i h1 h2 h3 h4
    obtain ⟨M, rfl⟩ : ∃ M : Nat, N = M := ⟨N.toNat, by omega⟩
    have hm : (M : Int) * M ≤ 64 * 64 := Int.mul_le_mul (by omega) (by omega) (by omega) (by omega)
    refine ⟨M, rfl, ⟨by omega, fun e he => ?_, by omega⟩, h4⟩
    have := List.any_eq_false.1 (Bool.eq_false_iff.2 h3) e he
    simp only [outF, beyondF, Bool.or_eq_true, decide_eq_true_eq, not_or] at this
    omega
  · cases h

/-- rows, with an errno -/
def RetR (w : World) (L : List (List Int)) (x : Int) : Ending → World → Prop := Ret w fun v cs => ∃ a n c h, v = .tuple #[.slice a n c, .int .i64 x] ∧ cs = [.hp h] ∧ Sl (encS (encF fI) 1) 1 h a n c L
def compR (N : Int) (E : List (Int × Int)) : List (List Int) := if checkF N E = 0 then compF N.toNat E else []
theorem Components_spec {a : Option Addr} {n c : Nat} {E : List (Int × Int)} (N : Int) (w : World) (hL : Sl (encF fE) 2 (Hp.whole w) a n c E) :
    CallsE Try.prog 45 #[gv N a n c] w (RetR w (compR N E) (checkF N E)) := by
  refine enter (X := cx 18) (cxg _) (args := [.agg #[.int .i64 N, .slice a n c]]) [.tmp 2, .tmp 3] Try.func45 rfl rfl rfl rfl rfl ?_
  intro b1
  refine callV _ (fun w' hm => check_spec N w' (hL.mono (encF_mono _) (hm 0 _ rfl))) ?_
  refine bsplitd (fun h => ?_) (fun h => ?_)
  · refine ⟨[.hp Hp.emp], ⟨none, 0, 0, Hp.emp, rfl, rfl, ?_⟩, fun w' h => (h.pick [0] rfl rfl).emp⟩
    rw [compR, if_neg h]; exact Sl.nil _ _ _ _ _
  have h : checkF N E = 0 := Decidable.not_not.1 h
  obtain ⟨M, rfl, hG, _⟩ := checkF_ok h
  refine call (fun w' hm => components_spec M w' (hL.mono (encF_mono _) (hm 0 _ rfl)) hG) ?_
  rintro _ _ ⟨a', n', c', hh, o2, rfl, rfl, hC, hO⟩
  refine ⟨[.hp hh], ⟨a', n', c', hh, by rw [h], rfl, ?_⟩, fun w' h => h.pick [0, 2] rfl rfl⟩
  rw [compR, if_pos h]; exact hC

theorem sinks1_spec (x : Int × Int) (p : Addr) (k : Int) (w : World) (hp : w.cell? p = some (.int .i64 k)) (hps : p.spot = none) :
    CallsE Try.prog 91 #[.agg #[.int .i64 x.1, .int .i64 x.2], .pointer (some p)] w (RetV w (.bool (decide (x.1 = k)))) := by
  obtain ⟨b, off, sp⟩ := p
  subst hps
  refine enter (X := cx 8) (cxg _) (args := [.agg #[.int .i64 x.1, .int .i64 x.2], .pointer (some ⟨b, off, none⟩)]) [.tmp 3] Try.func91 rfl rfl rfl rfl rfl ?_
  intro b1
  refine ld1 (cxg _) (i := 0) rfl (h := Hp.whole w) hp rfl ?_
  exact ⟨[], ⟨rfl, rfl⟩, fun w' h => h.pick [0] rfl rfl⟩

/-- rows that are read, their values listed -/
structure Rds (H : Hp) (vs : List Value) (LL : List (List Int)) : Prop where
  len : vs.length = LL.length
  get : ∀ (i : Nat) (v : Value) (L : List Int), vs[i]? = some v → LL[i]? = some L → encS (encF fI) 1 H L [v]
theorem Rds.nil (H : Hp) : Rds H [] [] := ⟨rfl, fun i v L h => by simp at h⟩
theorem Rds.push {H : Hp} {vs : List Value} {LL : List (List Int)} (h : Rds H vs LL) {v : Value} {L : List Int} (hv : encS (encF fI) 1 H L [v]) : Rds H (vs ++ [v]) (LL ++ [L]) := by
  refine ⟨by simp [h.len], fun i u M g1 g2 => ?_⟩
  rw [List.getElem?_append] at g1 g2
  by_cases hi : i < vs.length
  · rw [if_pos hi] at g1
    rw [if_pos (by rw [← h.len]; exact hi)] at g2
    exact h.get i u M g1 g2
  · rw [if_neg hi] at g1
    rw [if_neg (by rw [← h.len]; exact hi)] at g2
    have hz : i - vs.length = 0 := by have := (List.getElem?_eq_some_iff.1 g1).1; simp at this; omega
    rw [hz] at g1
    rw [← h.len, hz] at g2
    cases g1; cases g2
    exact hv
theorem Rds.sl {H : Hp} {vs : List Value} {LL : List (List Int)} (h : Rds H vs LL) {T' : Nat} {o : Dw.Os} (ho : OwnO fV T' 1 o vs) (hdj : o.h.dj H) : Sl (encS (encF fI) 1) 1 (o.h.join H) o.a o.n o.c LL := by
  have hs := OwnO.sl (f := fV) (fun _ => rfl) (by decide) ho
  refine ⟨by rw [hs.len, h.len], hs.cap, fun i hi => ?_⟩
  have hi' : i < vs.length := by rw [h.len]; exact hi
  obtain ⟨b, off, cs, h1, h2, h3, h4⟩ := hs.cells i hi'
  have hv := h.get i _ _ (List.getElem?_eq_getElem hi') (List.getElem?_eq_getElem hi)
  refine ⟨b, off, cs, h1, h2, ?_, fun j v hj => (Hp.le_join_l _ _).cell (h4 j v hj)⟩
  rw [show cs = [vs[i]] from h3]
  exact encS_mono (encF_mono _) 1 _ _ _ _ (Hp.le_join_r hdj) hv

def isSink (N : Nat) (E : List (Int × Int)) (k : Nat) : Bool := !(condR N E).2.1.any fun e => decide (e.1 = (k : Int))
def sinkK (N : Nat) (E : List (Int × Int)) (k : Nat) : List (List Int) := ((List.range k).filter (isSink N E)).map fun k => (compF N E).getD k []
def sinkF (N : Nat) (E : List (Int × Int)) : List (List Int) := sinkK N E (compF N E).length
theorem sinkK_succ (N : Nat) (E : List (Int × Int)) (k : Nat) : sinkK N E (k + 1) = if isSink N E k then sinkK N E k ++ [(compF N E).getD k []] else sinkK N E k := by
  unfold sinkK
  rw [List.range_succ, List.filter_append, List.map_append]
  by_cases h : isSink N E k = true <;> simp [h]
theorem sinkK_len (N : Nat) (E : List (Int × Int)) (k : Nat) : (sinkK N E k).length ≤ k := by
  unfold sinkK; rw [List.length_map]
  exact Nat.le_trans (List.length_filter_le _ _) (by simp)
theorem dd_sub : ∀ {L : List (Int × Int)} {x : Int × Int}, x ∈ dd L → x ∈ L
  | [_], x, h => h
  | y :: z :: r, x, h => by
    rw [dd] at h
    split at h
    · exact List.mem_cons_of_mem _ (dd_sub h)
    · rcases List.mem_cons.1 h with h | h
      · simp [h]
      · exact List.mem_cons_of_mem _ (dd_sub h)
theorem makeR_len (N : Int) (E : List (Int × Int)) : (makeR N E).2.1.length ≤ E.length := by
  unfold makeR
  split
  · simp
  split
  · simp
  · exact Nat.le_trans (dd_len _) (by rw [sortF_len]; exact Nat.le_refl _)
def sinkR (N : Int) (E : List (Int × Int)) : List (List Int) := if checkF N E = 0 then sinkF N.toNat E else []
theorem Sinks_spec {a : Option Addr} {n c : Nat} {E : List (Int × Int)} (N : Int) (w : World) (hL : Sl (encF fE) 2 (Hp.whole w) a n c E) :
    CallsE Try.prog 39 #[gv N a n c] w (RetR w (sinkR N E) (checkF N E)) := by
  refine enter (X := cx 45) (cxg _) (args := [.agg #[.int .i64 N, .slice a n c]]) [.tmp 2, .tmp 3] Try.func39 rfl rfl rfl rfl rfl ?_
  intro b1
  refine callV _ (fun w' hm => check_spec N w' (hL.mono (encF_mono _) (hm 0 _ rfl))) ?_
  refine bsplitd (fun h => ?_) (fun h => ?_)
  · refine ⟨[.hp Hp.emp], ⟨none, 0, 0, Hp.emp, rfl, rfl, ?_⟩, fun w' h => (h.pick [0] rfl rfl).emp⟩
    rw [sinkR, if_neg h]; exact Sl.nil _ _ _ _ _
  have h : checkF N E = 0 := Decidable.not_not.1 h
  obtain ⟨M, rfl, hG, _⟩ := checkF_ok h
  rw [h]
  refine call (fun w' hm => components_spec M w' (hL.mono (encF_mono _) (hm 0 _ rfl)) hG) ?_
  rintro _ _ ⟨a', n', c', hh, o2, rfl, rfl, hC, hO⟩
  refine call (fun w' hm => condense_spec M w' (hL.mono (encF_mono _) (hm 0 _ rfl)) hG) ?_
  rintro _ _ ⟨o3, o4, rfl, rfl, ho3, ho4⟩
  intro b2
  have hEs := OwnO.sl (f := fE) (fun _ => rfl) (by decide) ho3
  have hCl : (compF M E).length ≤ 64 := by
    have := hG.hN
    have := reps_len M E M
    simp only [compF, List.length_map]; omega
  have hn' := hC.len
  have hcl : (condR M E).2.1.length < 1000000000 := by
    have h1 := makeR_len (compF M E).length (condE M E E)
    have h2 := condE_len M E E
    have h3 := hG.len
    unfold condR; omega
  have hsk : sinkR M E = sinkF M E := by rw [sinkR, if_pos h]; rfl
  refine NeedL.mkS (Nat × Dw.Os × List Value) (fun g => [(5, .v (.slice a' n' c')), (7, .bx 4 0), (9, .v g.2.1.v), (27, .v (.int .i64 n')), (28, .v (.int .i64 g.1))])
    (fun g => [.hp (Hp.whole w), .box b1 [.int .i64 M, .slice a n c] 26, .hp hh, .hp o3.h, .box b2 [.int .i64 (condR M E).1, o3.v] 26, .hp g.2.1.h])
    (fun g => g.1 ≤ n' ∧ OwnO fV 42 1 g.2.1 g.2.2 ∧ Rds hh g.2.2 (sinkK M E g.1)) (fun g => n' - g.1) (0, Os.nil, []) ⟨Nat.zero_le _, OwnO.nil _ _ _, Rds.nil _⟩ (Ent.mk (fun _ _ h => Ok.emp (h.pick [0, 1, 2, 4, 6] rfl rfl)) rfl rfl) ?_
  rintro ⟨k, o1, vs⟩ ⟨hk, ho, hr⟩ hsat
  dsimp only at *
  refine bsplitd (fun hlt => ?_) (fun hge => ?_)
  · have hlt' : k < (compF M E).length := by omega
    have st := sinkK_succ M E k
    have sl := sinkK_len M E k
    have hvl := hr.len
    intro b4
    refine callV _ (fun w' hm => containsFuncEdges_spec 91 (.pointer (some ⟨b4, 0, none⟩)) (fun e => decide (e.1 = (k : Int))) w' (hEs.mono (encF_mono _) (hm 3 _ rfl)) (by rw [hEs.len]; exact hcl) (fun w2 h2 x _ => sinks1_spec x ⟨b4, 0, none⟩ k w2 ?_ rfl)) ?_
    · refine h2.cell (Hp.le.cell (hm 6 _ rfl) ?_)
      simp [Ch.h, Hp.cell?, Hp.one]
    refine bsplit (fun hb => ?_) (fun hb => ?_)
    · refine idx (cxg _) (e := 42) rfl hC k rfl hlt' (fun b o cs hcs hR hcell => ?_)
      obtain ⟨a1, n1, c1, rfl, hs1⟩ := hR
      refine ld1 (cxg _) (i := 2) rfl (hcell 0 _ rfl) rfl ?_
      intro b5
      refine appO (f := fV) (cxg _) (e := 42) rfl (i := 5) rfl ho (j := 7) (.slice a1 n1 c1) rfl rfl rfl rfl (by omega) (fun o' ho' => ?_)
      refine nw (by omega) (by omega) ?_
      refine ⟨(k + 1, o', vs ++ [.slice a1 n1 c1]), ⟨by dsimp only; omega, ho', ?_⟩, by dsimp only; omega, Ent.mk (fun _ _ h => h.pick [0, 1, 2, 3, 4, 5] rfl rfl) rfl rfl⟩
      dsimp only
      have hsk : isSink M E k = true := hb
      rw [st, if_pos hsk]
      refine hr.push ⟨_, _, _, rfl, ?_⟩
      rw [show (compF M E).getD k [] = (compF M E)[k] by simp [hlt']]
      exact hs1
    · have hsk : isSink M E k = false := hb
      refine nw (by omega) (by omega) ?_
      refine ⟨(k + 1, o1, vs), ⟨by dsimp only; omega, ho, ?_⟩, by dsimp only; omega, Ent.mk (fun _ _ h => h.pick [0, 1, 2, 3, 4, 5] rfl rfl) rfl rfl⟩
      dsimp only
      rw [st, hsk]; exact hr
  · have hkn : k = (compF M E).length := by omega
    subst hkn
    refine ⟨[.hp (o1.h.join hh)], ⟨o1.a, o1.n, o1.c, _, rfl, rfl, ?_⟩, fun w' h => Ok.join (c := .hp (Hp.whole w)) (d := .hp o1.h) (e := .hp hh) (s := []) (h.pick [0, 5, 2] rfl rfl)⟩
    rw [hsk]
    exact hr.sl ho (hsat.dj 5 2 rfl rfl (by decide))
end Go.Proofs.Ytdjhgcpmipglfaa
