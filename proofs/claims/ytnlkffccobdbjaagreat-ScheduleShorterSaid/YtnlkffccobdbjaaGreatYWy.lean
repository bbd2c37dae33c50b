/- Contracts of the builder's alike, copied; a box that is reached by a pointer's value. Their premises are their own. -/
import Derived.Test.YtnlkffccobdbjaaGreatYWx
import Derived.Test.YtnlkffccobdbjaaGreatYX3
namespace Go.Dw
open Go Go.RowKit
theorem Ok.perm {w0 w : World} {t u : List Ch} (h : Ok w0 t w) (g : Nat → Nat) (hg : ∀ k c, sget u k = some c → ∃ c', sget t (g k) = some c' ∧ c'.h = c.h) (inj : ∀ j k, j < u.length → k < u.length → g j = g k → j = k) : Ok w0 u w := by
  have lt : ∀ {k : Nat} {c : Ch}, sget u k = some c → k < u.length := fun e => by rw [sget_eq] at e; exact (List.getElem?_eq_some_iff.1 e).1
  refine ⟨h.os, h.tape, h.output, h.size, h.drawn, fun k c e => ?_, fun j k c d hjk e1 e2 => ?_⟩
  · obtain ⟨c', h1, h2⟩ := hg k c e
    rw [← h2]; exact h.mem _ c' h1
  · obtain ⟨c', h1, h2⟩ := hg j c e1
    obtain ⟨d', h3, h4⟩ := hg k d e2
    rw [← h2, ← h4]
    exact h.disj _ _ c' d' (fun e => hjk (inj j k (lt e1) (lt e2) e)) h1 h3
theorem Ok.reh {w0 w : World} {t u : List Ch} (h : Ok w0 t w) (e : u.map Ch.h = t.map Ch.h) : Ok w0 u w := by
  refine h.perm id (fun k c hk => ?_) (fun _ _ _ _ e => e)
  rw [sget_eq] at hk
  have h1 : (u.map Ch.h)[k]? = some c.h := by rw [List.getElem?_map, hk]; rfl
  rw [e, List.getElem?_map] at h1
  cases h2 : t[k]? with
  | none => rw [h2] at h1; cases h1
  | some c' => rw [h2] at h1; exact ⟨c', by rw [sget_eq]; exact h2, Option.some.inj h1⟩
theorem reset_h {s : List Ch} {i : Nat} {c d : Ch} (hi : sget s i = some c) (e : d.h = c.h) : (sset s i d).map Ch.h = s.map Ch.h := by
  rw [sget_eq] at hi
  obtain ⟨li, he⟩ := List.getElem?_eq_some_iff.1 hi
  rw [sset_eq, List.map_set]
  apply List.ext_getElem?
  intro k
  rw [List.getElem?_set]
  by_cases hk : i = k
  · subst hk
    rw [if_pos rfl, if_pos (by rw [List.length_map]; exact li), List.getElem?_map, hi, e]; rfl
  · rw [if_neg hk]
theorem one_dj {b : Nat} {o : Obj} {G : Hp} (h : G b = none) : (Hp.one b o).dj G := fun k => by
  by_cases hk : k = b
  · subst hk; exact .inr h
  · exact .inl (by unfold Hp.one; rw [if_neg hk])
theorem dj_one {b : Nat} {o : Obj} {G : Hp} (h : (Hp.one b o).dj G) : G b = none := (h b).resolve_left (by rw [Hp.one_self]; exact fun e => by cases e)
section
variable {X : Ctx} {s : List Ch}
theorem ldB (hX : X.Good) {T : Nat} {i b T' : Nat} {cs : List Value} (hi : sget s i = some (.box b cs T')) {j : Nat} {v : Value} (hc : cs[j]? = some v) (hT : (tget X.tt T).map TI.agg = some false) {q : TV → Prop} (hq : q (.v v)) :
    NeedQ X.P s (Instr.loadAt T (.pointer (some ⟨b, 0 + j, none⟩))) q := by
  refine ⟨v, fun w hm => ?_, hq⟩
  cases ht : tget X.tt T with
  | none => simp [ht] at hT
  | some ti =>
    have ha : ti.agg = false := by simpa [ht] using hT
    have hg := Good.und hX ht
    have := box_cell hm hi hc
    rw [Nat.zero_add]
    simp [Instr.loadAt, Instr.sureAddr, loadVar, hg.agg, ha, this]
theorem stB (hX : X.Good) {T : Nat} {i b T' : Nat} {cs : List Value} (hi : sget s i = some (.box b cs T')) {j : Nat} {v : Value} (hv : v.cells = #[v]) (hone : v.oneCell' = true) (hj : j < cs.length) {ti : TI} (hT : tget X.tt T = some ti) (h1 : ti.size = 1) {q : List Ch → Prop}
    (hq : q (sset s i (.box b (cs.set j v) T'))) : NeedU X.P s (Instr.storeAt T (.pointer (some ⟨b, 0 + j, none⟩)) v) q := by
  refine ⟨fun w0 w hok => ?_⟩
  have hblk := hok.mem i _ hi b _ (Hp.one_self b _)
  have hst := run_storeCells_at X.P b (0 + j) T' [v] 0 cs.toArray w hblk (by simp; omega) (fun x hx => by rw [List.mem_singleton.1 hx]; exact hone)
  simp only [Nat.add_zero, Nat.zero_add, List.length_singleton] at hst
  have hset : cs.take j ++ [v] ++ cs.drop (j + 1) = cs.set j v := by
    rw [List.set_eq_take_append_cons_drop, if_pos hj]; simp
  have hrow := Own.row (arr' := (cs.toArray.toList.take j ++ [v] ++ cs.toArray.toList.drop (j + 1)).toArray) (hok.reh (u := sset s i (.hp (Ch.box b cs T').h)) (reset_h hi rfl)) (i := i) (h := (Ch.box b cs T').h) (by rw [sget_put hi, if_pos rfl]) (Hp.one_self b _)
  refine ⟨w.setRow b (cs.toArray.toList.take j ++ [v] ++ cs.toArray.toList.drop (j + 1)).toArray, _, ?_, ?_, Keep.set hi (fun b' cs' T e => by cases e; exact ⟨_, _, rfl⟩), hq⟩
  · simp [Instr.storeAt, Instr.sureAddr, storeVar, (Good.und hX hT).size, h1, hv, hst]
  · refine hrow.reh ?_
    rw [sset_eq, sset_eq, sset_eq, List.map_set, List.map_set, List.map_set, List.set_set]
    congr 1
    show Hp.one b _ = (Hp.one b _).upd b _
    funext k
    unfold Hp.one Hp.upd
    by_cases hk : k = b
    · rw [if_pos hk, if_pos hk]
      dsimp only
      rw [hset]
    · rw [if_neg hk, if_neg hk]
      exact (if_neg hk).symm
/-- a call that changes a box and an owned heaplet -/
theorem callMX {P : Program} {s : List Ch} {f : Nat} {args : List Value} {q : TV → List Ch → Prop} {i j : Nat} (hij : i ≠ j) {b T : Nat} {cs : List Value} {G : Hp} (hi : sget s i = some (.box b cs T)) (hj : sget s j = some (.hp G)) {R : Value → List Value → Hp → Prop}
    (hc : ∀ w0 w, Ok w0 s w → CallsE P f args.toArray w (RetM w ((Ch.box b cs T).h.join G) fun v h' cs2 => cs2 = [] ∧ ∃ cs' G', h' = (Ch.box b cs' T).h.join G' ∧ G' b = none ∧ R v cs' G'))
    (k : ∀ v cs' G', G' b = none → R v cs' G' → q (.v v) (sset (sset s i (.box b cs' T)) j (.hp G'))) : NeedF P s f args q := by
  refine ⟨fun w0 w hok => ⟨(hc w0 w hok).1, (hc w0 w hok).2.mono fun e w' he => ?_⟩⟩
  obtain ⟨v, h', cs2, rfl, h1, rfl, cs', G', rfl, hb, hR⟩ := he
  have li : i < s.length := by rw [sget_eq] at hi; exact (List.getElem?_eq_some_iff.1 hi).1
  have lj : j < s.length := by rw [sget_eq] at hj; exact (List.getElem?_eq_some_iff.1 hj).1
  have hok1 : Ok w0 (sset s i (.hp (Ch.box b cs T).h)) w := hok.reh (reset_h hi rfl)
  have hi1 : sget (sset s i (.hp (Ch.box b cs T).h)) i = some (.hp (Ch.box b cs T).h) := by rw [sget_put hi, if_pos rfl]
  have hj1 : sget (sset s i (.hp (Ch.box b cs T).h)) j = some (.hp G) := by rw [sget_put hi, if_neg (Ne.symm hij)]; exact hj
  have hok2 := hok1.join2 hij hi1 hj1
  obtain ⟨s2, hs2⟩ : ∃ s2, s2 = sset (sset (sset s i (.hp (Ch.box b cs T).h)) i (.hp ((Ch.box b cs T).h.join G))) j (.hp Hp.emp) := ⟨_, rfl⟩
  rw [← hs2] at hok2
  have l2 : s2.length = s.length := by rw [hs2]; simp [sset_eq]
  have hg2 : ∀ k, sget s2 k = if k = j then some (.hp Hp.emp) else if k = i then some (.hp ((Ch.box b cs T).h.join G)) else sget s k := fun k => by
    rw [hs2, sget_eq, sget_eq]
    simp only [sset_eq, List.set_set, List.getElem?_set, List.length_set]
    by_cases h1 : k = j
    · subst h1; simp [lj]
    · rw [if_neg (Ne.symm h1), if_neg h1]
      by_cases h2 : k = i
      · subst h2; simp [li]
      · simp [h2, Ne.symm h2]
  have hi2 : sget s2 i = some (.hp ((Ch.box b cs T).h.join G)) := by rw [hg2, if_neg hij, if_pos rfl]
  have hok3 := hok2.callM hi2 h1
  rw [List.append_nil] at hok3
  have hi3 : sget (sset s2 i (.hp ((Ch.box b cs' T).h.join G'))) i = some (.hp ((Ch.box b cs' T).h.join G')) := by rw [sget_put hi2, if_pos rfl]
  have d : (Ch.box b cs' T).h.dj G' := one_dj hb
  have hok4 := Ok.part hok3 hi3 (Hp.le_join_l _ _) (Hp.le_join_r d) d
  refine ⟨v, sset (sset s i (.box b cs' T)) j (.hp G'), rfl, hok4.perm (fun k => if k = j then s.length else k) (fun k c hk => ?_) (fun x y hx hy e => ?_), ?_, k v cs' G' hb hR⟩
  · have lk : k < s.length := by rw [sget_eq] at hk; have := (List.getElem?_eq_some_iff.1 hk).1; simpa [sset_eq] using this
    have hk2 : sget (sset (sset s i (.box b cs' T)) j (.hp G')) k = if k = j then some (.hp G') else if k = i then some (.box b cs' T) else sget s k := by
      rw [sget_eq, sget_eq]
      simp only [sset_eq, List.getElem?_set, List.length_set]
      by_cases h1 : k = j
      · subst h1; simp [lj]
      · rw [if_neg (Ne.symm h1), if_neg h1]
        by_cases h2 : k = i
        · subst h2; simp [li]
        · simp [h2, Ne.symm h2]
    rw [hk2] at hk
    rw [sget_append]
    simp only [sset_len, l2]
    by_cases h1 : k = j
    · rw [if_pos h1] at hk ⊢
      cases hk
      rw [if_neg (by omega), Nat.sub_self]
      exact ⟨_, rfl, rfl⟩
    · rw [if_neg h1] at hk ⊢
      rw [if_pos lk, sget_put hi3]
      by_cases h2 : k = i
      · rw [if_pos h2] at hk ⊢
        cases hk
        exact ⟨_, rfl, rfl⟩
      · rw [if_neg h2] at hk ⊢
        rw [sget_put hi2, if_neg h2, hg2, if_neg h1, if_neg h2]
        exact ⟨c, hk, rfl⟩
  · simp only [sset_len] at hx hy
    by_cases h1 : x = j <;> by_cases h2 : y = j
    · rw [h1, h2]
    · rw [if_pos h1, if_neg h2] at e; omega
    · rw [if_neg h1, if_pos h2] at e; omega
    · rw [if_neg h1, if_neg h2] at e; exact e
  · refine (Keep.set hi (c' := .box b cs' T) (fun b' cs2 T2 e => by cases e; exact ⟨_, _, rfl⟩)).trans (Keep.set (s := sset s i (.box b cs' T)) (i := j) (c := .hp G) (by rw [sget_put hi, if_neg (Ne.symm hij)]; exact hj) (fun b' cs2 T2 e => by cases e))
end
end Go.Dw
namespace Go.Proofs.YtnlkffccobdbjaaGreat
open Go Go.RowKit Go.Dw
def alikA (SS : List Sn) (Fr : List Int) (k : Nat) : Bool := (List.range k).any fun j => decide (Fr.getD j 0 = Fr.getD k 0) && decide ((SS.getD j default).ts = (SS.getD k default).ts)
section
variable {a a' : Option Addr} {n c n' c' : Nat} {TT : List Tk} {SS : List Sn} {ja : Option Addr} {jn jc : Nat} {da : Option Addr} {dn dc : Nat} {fa : Option Addr} {fn fc : Nat}
set_option maxRecDepth 10000 in
theorem alike_spec {Fr : List Int} (k : Nat) (w : World) (hS : Sl encN 2 (Hp.whole w) a' n' c' SS) (hs : Sml TT SS) (hF : Sl (encF fI) 1 (Hp.whole w) fa fn fc Fr) (hl : Fr.length = SS.length) (hk : k < SS.length) :
    CallsE Tryz.prog 107 #[bv a n c a' n' c' ja jn jc da dn dc fa fn fc, .int .i64 k] w (RetV w (.bool (alikA SS Fr k))) := by
  have sm := hs.m
  obtain ⟨y, hy⟩ : ∃ y, y = Fr[k]'(by omega) := ⟨_, rfl⟩
  obtain ⟨sk, hsk⟩ : ∃ sk, sk = SS[k] := ⟨_, rfl⟩
  have hlk := hs.s sk (by rw [hsk]; exact List.getElem_mem hk)
  refine enter (X := cx 39) (cxg _) (args := [.agg #[.slice a n c, .slice a' n' c', .slice ja jn jc, .slice da dn dc, .slice fa fn fc], .int .i64 k]) [.tmp 4] Tryz.func107 rfl rfl rfl rfl rfl ?_
  intro b2
  refine NeedL.mk Nat (fun j => [(1, .v (.int .i64 k)), (2, .bx 1 0), (6, .v (.int .i64 k)), (7, .v (.int .i64 j))]) (fun _ => [.hp (Hp.whole w), .box b2 [.slice a n c, .slice a' n' c', .slice ja jn jc, .slice da dn dc, .slice fa fn fc] 101])
    (fun j => j ≤ k ∧ ∀ i, i < j → (decide (Fr.getD i 0 = Fr.getD k 0) && decide ((SS.getD i default).ts = (SS.getD k default).ts)) = false) (fun j => k - j) 0 ⟨Nat.zero_le _, fun i hi => by omega⟩ (Ent.mk (fun _ _ h => h) rfl rfl) ?_
  rintro j ⟨hj, hall⟩
  refine bsplitd (fun h1 => ?_) (fun h1 => ?_)
  · have hjS : j < SS.length := by omega
    have hjF : j < Fr.length := by omega
    have hkF : k < Fr.length := by omega
    obtain ⟨x, hx⟩ : ∃ x, x = Fr[j] := ⟨_, rfl⟩
    obtain ⟨sj, hsj⟩ : ∃ sj, sj = SS[j] := ⟨_, rfl⟩
    have hlj := hs.s sj (by rw [hsj]; exact List.getElem_mem hjS)
    obtain ⟨B, hB⟩ : ∃ B, B = (decide (x = y) && decide (sj.ts = sk.ts)) := ⟨_, rfl⟩
    have hB' : (decide (Fr.getD j 0 = Fr.getD k 0) && decide ((SS.getD j default).ts = (SS.getD k default).ts)) = B := by rw [gD hjF, gD hkF, gD hjS, gD hk, hB, hx, hy, hsj, hsk]
    refine NeedD.cut Unit (fun _ => [(1, .v (.int .i64 k)), (2, .bx 1 0), (6, .v (.int .i64 k)), (7, .v (.int .i64 j)), (37, .v (.bool B))]) (fun _ => [.hp (Hp.whole w), .box b2 [.slice a n c, .slice a' n' c', .slice ja jn jc, .slice da dn dc, .slice fa fn fc] 101]) (fun _ => True) (NeedD.by_order (cxg _) (.take 0 <| .take 1 <| .take 2 <| .take 3 <| .take 4 <| .take 5 <| .take 6 <| .take 7 <| .take 8 <| .take 9 <| .take 10 <| .take 11 <| .take 12 <| .take 13 <| .take 14 <| .take 15 <| .take 16 <| .take 17 <| .take 18 <| .take 19 <| .take 20 <| .take 21 <| .take 22 <| .take 23 <| .take 24 <| .take 25 <| .run 26 <| .take 27 <| .done) (by kernel_rfl) ?_) ?_
    · refine idx (cxg _) (e := 3) rfl hF j rfl hjF (fun b9 o9 cs hcs hR hcell2 => ?_)
      rw [← hx] at hR
      subst hR
      refine ld1 (cxg _) (i := 0) rfl (hcell2 0 _ rfl) rfl ?_
      refine idx (cxg _) (e := 3) rfl hF k rfl hkF (fun b9 o9 cs hcs hR hcell3 => ?_)
      rw [← hy] at hR
      subst hR
      refine ld1 (cxg _) (i := 0) rfl (hcell3 0 _ rfl) rfl ?_
      refine bsplitd (fun h4 => ?_) (fun h4 => ?_)
      · refine idx (cxg _) (e := 60) rfl hS j rfl hjS (fun b9 o9 cs hcs hR hcell5 => ?_)
        rw [← hsj] at hR
        obtain ⟨a3, n3, c3, rfl, hs3⟩ := hR
        have l3 := hs3.len
        refine ld1 (cxg _) (i := 0) rfl (hcell5 1 _ rfl) rfl ?_
        refine idx (cxg _) (e := 60) rfl hS k rfl hk (fun b9 o9 cs hcs hR hcell6 => ?_)
        rw [← hsk] at hR
        obtain ⟨a4, n4, c4, rfl, hs4⟩ := hR
        refine ld1 (cxg _) (i := 0) rfl (hcell6 1 _ rfl) rfl ?_
        refine callV _ (fun w' hm => equalStrs_spec w' (hs3.mono (encF_mono _) (hm 0 _ rfl)) (hs4.mono (encF_mono _) (hm 0 _ rfl)) (by omega)) ?_
        refine ⟨(by repeat first | exact trivial | refine ⟨.inl rfl, ?_⟩ | refine ⟨.inr rfl, ?_⟩), ?_⟩
        exact ⟨(), trivial, Ent.mk (fun _ _ h => h) (by rw [hB, decide_eq_true h4]; rfl) rfl⟩
      · refine ⟨(by repeat first | exact trivial | refine ⟨.inl rfl, ?_⟩ | refine ⟨.inr rfl, ?_⟩), ?_⟩
        exact ⟨(), trivial, Ent.mk (fun _ _ h => h) (by rw [hB, decide_eq_false h4]; rfl) rfl⟩
    rintro ⟨⟩ _ _
    dsimp only
    refine bsplit (fun h7 => ?_) (fun h7 => ?_)
    · exact ⟨[], ⟨by unfold alikA; rw [anyHitR (k := j) (by omega) (hB'.trans h7)], rfl⟩, fun w' h => h.pick [0] rfl rfl⟩
    · refine nw (by omega) (by omega) ?_
      refine ⟨j + 1, ⟨by omega, fun i hi => ?_⟩, by omega, Ent.mk (fun _ _ h => h) rfl rfl⟩
      rcases Nat.lt_or_ge i j with h | h
      · exact hall i h
      · obtain rfl : i = j := by omega
        exact hB'.trans h7
  · exact ⟨[], ⟨by unfold alikA; rw [anyNoR fun i hi => hall i (by omega)], rfl⟩, fun w' h => h.pick [0] rfl rfl⟩
theorem copied_spec' {J : List Jb} {D : List Bool} {Fr : List Int} (w : World) (hJ : Sl (encF fJ) 3 (Hp.whole w) ja jn jc J) (hD : Sl (encF fB) 1 (Hp.whole w) da dn dc D) (hF : Sl (encF fI) 1 (Hp.whole w) fa fn fc Fr) (l1 : J.length < 1000) (l2 : D.length < 1000) (l3 : Fr.length < 1000) :
    CallsE Tryz.prog 108 #[bv a n c a' n' c' ja jn jc da dn dc fa fn fc] w (Ret w fun v cs => ∃ oJ oD oF : Dw.Os, v = bv a n c a' n' c' oJ.a oJ.n oJ.c oD.a oD.n oD.c oF.a oF.n oF.c ∧ cs = [.hp oJ.h, .hp oD.h, .hp oF.h] ∧
      OwnO fJ 52 3 oJ J ∧ OwnO fB 4 1 oD D ∧ OwnO fI 3 1 oF Fr) := by
  have k1 := hJ.len
  have k2 := hD.len
  have k3 := hF.len
  refine enter (X := cx 15) (cxg _) (args := [.agg #[.slice a n c, .slice a' n' c', .slice ja jn jc, .slice da dn dc, .slice fa fn fc]]) [.cell 2 101] Tryz.func108 rfl rfl rfl rfl rfl ?_
  intro b1
  intro b2
  refine NeedD.by_order (cxg _) (.take 0 <| .take 1 <| .take 2 <| .take 3 <| .take 5 <| .take 6 <| .take 8 <| .take 9 <| .run 4 <| .run 7 <| .run 10 <| .take 11 <| .run 12 <| .done) (by kernel_rfl) ?_
  refine call (fun w' hm => cloneJobs_spec w' (hJ.mono (encF_mono _) (hm 0 _ rfl)) (by omega)) ?_
  rintro _ _ ⟨oJ, rfl, rfl, hoJ⟩
  refine ⟨(by repeat first | exact trivial | refine ⟨.inl rfl, ?_⟩ | refine ⟨.inr rfl, ?_⟩), ?_⟩
  refine call (fun w' hm => cloneBools_spec w' (hD.mono (encF_mono _) (hm 0 _ rfl)) (by omega)) ?_
  rintro _ _ ⟨oD, rfl, rfl, hoD⟩
  refine ⟨(by repeat first | exact trivial | refine ⟨.inl rfl, ?_⟩ | refine ⟨.inr rfl, ?_⟩), ?_⟩
  refine call (fun w' hm => cloneInts_spec w' (hF.mono (encF_mono _) (hm 0 _ rfl)) (by omega)) ?_
  rintro _ _ ⟨oF, rfl, rfl, hoF⟩
  refine ⟨(by repeat first | exact trivial | refine ⟨.inl rfl, ?_⟩ | refine ⟨.inr rfl, ?_⟩), ?_⟩
  exact ⟨[.hp oJ.h, .hp oD.h, .hp oF.h], ⟨oJ, oD, oF, rfl, rfl, hoJ, hoD, hoF⟩, fun w' h => h.pick [0, 3, 4, 5] rfl rfl⟩
end
end Go.Proofs.YtnlkffccobdbjaaGreat
