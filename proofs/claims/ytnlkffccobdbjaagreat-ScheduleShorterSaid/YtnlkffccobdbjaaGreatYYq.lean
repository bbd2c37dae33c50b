/- The plain laws of ScheduleShorter: a station more, an After less, twice the durations. -/
import Derived.Test.YtnlkffccobdbjaaGreatYY2
namespace Go.Proofs.YtnlkffccobdbjaaGreat
open Go Go.RowKit Go.Dw
theorem firstE_no {f : Nat → Int} {n : Nat} (h : ∀ j, j < n → f j = 0) : firstE f n = none := firstE_none h
theorem shop_of {TT : List Tk} {SS : List Sn} (h1 : TT.length ≤ 24) (h2 : SS.length ≤ 8) (h3 : ∀ j, j < TT.length → taskE TT j = 0) (h4 : TT.length ≤ (ordF TT).length) (h5 : ∀ j, j < SS.length → statE SS j = 0) (h6 : ∀ t ∈ TT, SS.any (canS t.tl) = true) : shopE TT SS = 0 := by
  unfold shopE
  rw [if_neg (by omega), firstE_no h3]
  dsimp only
  rw [if_neg (by omega), firstE_no h5]
  dsimp only
  rw [if_neg]
  intro h
  obtain ⟨t, ht, h⟩ := List.any_eq_true.1 h
  rw [h6 t ht] at h
  cases h
/-- an order of the tasks is found if their After have lower ranks -/
theorem ord_full {TT : List Tk} (r : Nat → Nat) (h : ∀ i, i < TT.length → ∀ x ∈ afA TT i, x.toNat < TT.length ∧ r x.toNat < r i) : TT.length ≤ (ordF TT).length := by
  have key : ∀ k, k ≤ TT.length → (ordT TT k).length = k := by
    intro k
    induction k with
    | zero => intro _; rfl
    | succ k ih =>
      intro hk
      have ih := ih (by omega)
      obtain ⟨f1, f2, _⟩ := ordT_fine TT k
      have rd : ∀ m i, r i ≤ m → i < TT.length → i ∉ ordT TT k → ∃ i', i' < TT.length ∧ rdyT TT (ordT TT k) i' = true := by
        intro m
        induction m with
        | zero =>
          intro i hr hi hn
          refine ⟨i, hi, ?_⟩
          unfold rdyT
          rw [Bool.and_eq_true, List.all_eq_true]
          refine ⟨by rw [decide_eq_false hn]; rfl, fun x hx => ?_⟩
          have := (h i hi x hx).2
          omega
        | succ m ihm =>
          intro i hr hi hn
          by_cases hc : ∀ x ∈ afA TT i, x.toNat ∈ ordT TT k
          · refine ⟨i, hi, ?_⟩
            unfold rdyT
            rw [Bool.and_eq_true, List.all_eq_true]
            exact ⟨by rw [decide_eq_false hn]; rfl, fun x hx => decide_eq_true (hc x hx)⟩
          · have hc2 : ∃ x, x ∈ afA TT i ∧ x.toNat ∉ ordT TT k := Classical.byContradiction fun g => hc fun x hx => Classical.byContradiction fun g2 => g ⟨x, hx, g2⟩
            obtain ⟨x, hx, hxn⟩ := hc2
            have := h i hi x hx
            exact ihm x.toNat (by omega) this.1 hxn
      have hex : ∃ i, i < TT.length ∧ i ∉ ordT TT k := Classical.byContradiction fun g => by
        have : ∀ x ∈ List.range TT.length, x ∈ ordT TT k := fun x hx => Classical.byContradiction fun g2 => g ⟨x, List.mem_range.1 hx, g2⟩
        have := sub_len_of List.nodup_range this
        rw [List.length_range] at this
        omega
      obtain ⟨i, hi, hn⟩ := hex
      obtain ⟨i', hi', hr'⟩ := rd (r i) i (Nat.le_refl _) hi hn
      cases hx : nxtT TT (ordT TT k) with
      | none =>
        have := List.find?_eq_none.1 hx i' (List.mem_range.2 hi')
        exact absurd hr' this
      | some j =>
        have e : ordT TT (k + 1) = ordT TT k ++ [j] := by
          show (match nxtT TT (ordT TT k) with | some i => ordT TT k ++ [i] | none => ordT TT k) = _
          rw [hx]
        rw [e]; simp [ih]
  have := key TT.length (Nat.le_refl _)
  unfold ordF; omega
section
variable {TT : List Tk} {SS : List Sn} {L : List Jb}
/-! ### a station more -/
theorem sch_more {x : Sn} (h : Sch TT SS L) : Sch TT (SS ++ [x]) L := by
  refine ⟨h.len, h.tk, fun i hi => ?_, h.s0, fun i hi => ?_, h.dj, h.pr⟩
  · have := h.st i hi
    rw [List.length_append, List.length_singleton]
    omega
  · have hs := h.st i hi
    have := h.can i hi
    unfold caA at this ⊢
    have e : (SS ++ [x]).getD (snA L i).toNat default = SS.getD (snA L i).toNat default := by
      rw [List.getD_eq_getElem?_getD, List.getD_eq_getElem?_getD, List.getElem?_append_left (by omega)]
    rw [e]; exact this
theorem best_more {x : Sn} (hF : Fit TT) (hE : shopE TT SS = 0) (hE2 : shopE TT (SS ++ [x]) = 0) (h8 : TT.length ≤ 8) : mspF TT (bstR TT (SS ++ [x])) ≤ mspF TT (bstR TT SS) :=
  (bst_best hF hE2 h8).2 _ (sch_more (bst_best hF hE h8).1)
/-! ### an After less -/
def frK (t : Tk) : Tk := ⟨t.nm, t.du, t.tl, []⟩
def frT (TT : List Tk) (j : Nat) : List Tk := TT.set j (frK (TT.getD j default))
theorem fr_len (TT : List Tk) (j : Nat) : (frT TT j).length = TT.length := by unfold frT; rw [List.length_set]
theorem fr_get {j : Nat} (hj : j < TT.length) (k : Nat) : (frT TT j).getD k default = if j = k then frK (TT.getD k default) else TT.getD k default := by
  unfold frT
  rw [gSet hj]
  split
  · rename_i e; rw [e]
  · rfl
theorem fr_fld {j : Nat} (hj : j < TT.length) (k : Nat) : ((frT TT j).getD k default).nm = (TT.getD k default).nm ∧ ((frT TT j).getD k default).du = (TT.getD k default).du ∧ ((frT TT j).getD k default).tl = (TT.getD k default).tl ∧
    (((frT TT j).getD k default).af = [] ∨ ((frT TT j).getD k default).af = (TT.getD k default).af) := by
  rw [fr_get hj]
  split
  · exact ⟨rfl, rfl, rfl, .inl rfl⟩
  · exact ⟨rfl, rfl, rfl, .inr rfl⟩
theorem fr_nms {j : Nat} (hj : j < TT.length) : (frT TT j).map (fun t : Tk => t.nm) = TT.map (fun t : Tk => t.nm) := by
  apply List.ext_getElem
  · rw [List.length_map, List.length_map, fr_len]
  · intro k h1 h2
    rw [List.length_map] at h1 h2
    rw [List.getElem_map, List.getElem_map]
    have := (fr_fld hj k).1
    rw [gD h1, gD h2] at this
    exact this
theorem any_nms (A : List Tk) (i : Nat) (s : ByteArray) : (A.take i).any (fun x => decide (x.nm = s)) = ((A.map (fun t : Tk => t.nm)).take i).any (fun x => decide (x = s)) := by
  rw [← List.map_take, List.any_map]; rfl
theorem taskE_of {A B : List Tk} {i : Nat} (hl : B.length = A.length) (hn : B.map (fun t : Tk => t.nm) = A.map (fun t : Tk => t.nm)) (h1 : (B.getD i default).nm = (A.getD i default).nm) (h2 : 1 ≤ (B.getD i default).du ∧ (B.getD i default).du ≤ 1048576) (h3 : (B.getD i default).tl = (A.getD i default).tl)
    (h4 : (B.getD i default).af = [] ∨ (B.getD i default).af = (A.getD i default).af) (h : taskE A i = 0) : taskE B i = 0 := by
  unfold taskE at h ⊢
  dsimp only at h ⊢
  rw [any_nms, hn, ← any_nms, h1, h3, hl]
  split
  · rename_i g; rw [if_pos g] at h; cases h
  · rename_i g
    rw [if_neg g] at h
    split
    · rename_i g2; rw [if_pos g2] at h; cases h
    · rename_i g2
      rw [if_neg g2] at h
      rw [if_neg (by omega)]
      split at h
      · cases h
      · split at h
        · cases h
        · rename_i g4
          rw [if_neg g4]
          rcases h4 with e | e
          · rw [e]; rfl
          · rw [e]; exact h
theorem fr_shop {j : Nat} (hs : Sml TT SS) (hE : shopE TT SS = 0) (hj : j < TT.length) : shopE (frT TT j) SS = 0 := by
  obtain ⟨h1, h2, h3, h4, h5, h6⟩ := shop_ok hE
  have hF := fit_of hs hE
  have hl := fr_len TT j
  refine shop_of (by omega) h2 (fun k hk => ?_) ?_ h5 fun t ht => ?_
  · rw [hl] at hk
    obtain ⟨e1, e2, e3, e4⟩ := fr_fld hj k
    have hd := hF.d hk
    unfold duA at hd
    exact taskE_of hl (fr_nms hj) e1 (by rw [e2]; exact hd) e3 e4 (h3 k hk)
  · refine ord_full (rkV TT) fun i hi x hx => ?_
    rw [hl] at hi ⊢
    unfold afA at hx
    rcases (fr_fld hj i).2.2.2 with e | e
    · rw [e] at hx; cases hx
    · rw [e] at hx
      have := hF.a hi x hx
      exact ⟨by omega, rk_lt h4 hi hx⟩
  · unfold frT at ht
    rcases List.mem_or_eq_of_mem_set ht with g | rfl
    · exact h6 t g
    · have : TT.getD j default = TT[j] := gD hj
      rw [this]
      have g := h6 TT[j] (List.getElem_mem hj)
      exact g
theorem fr_msp {j : Nat} (hj : j < TT.length) (L : List Jb) : mspF (frT TT j) L = mspF TT L := by
  have e : endF (frT TT j) = endF TT := funext fun x => by
    unfold endF
    rw [(fr_fld hj _).2.1]
  unfold mspF
  rw [e]
theorem fr_sch {j : Nat} (hj : j < TT.length) (h : Sch TT SS L) : Sch (frT TT j) SS L := by
  have hl := fr_len TT j
  have ed : ∀ i, duA (frT TT j) i = duA TT i := fun i => (fr_fld hj i).2.1
  refine ⟨h.len.trans hl.symm, fun i hi => h.tk i (by omega), fun i hi => h.st i (by omega), fun i hi => h.s0 i (by omega), fun i hi => ?_, fun i k hi hk hik hs => ?_, fun i hi x hx => ?_⟩
  · have := h.can i (by omega)
    unfold caA at this ⊢
    rw [(fr_fld hj i).2.2.1]; exact this
  · rw [ed, ed]; exact h.dj i k (by omega) (by omega) hik hs
  · rw [ed]
    unfold afA at hx
    rcases (fr_fld hj i).2.2.2 with e | e
    · rw [e] at hx; cases hx
    · rw [e] at hx; exact h.pr i (by omega) x hx
theorem fr_sml {j : Nat} (hs : Sml TT SS) : Sml (frT TT j) SS := by
  refine ⟨by rw [fr_len]; exact hs.n, hs.m, fun t ht => ?_, hs.s⟩
  unfold frT at ht
  rcases List.mem_or_eq_of_mem_set ht with g | rfl
  · exact hs.a t g
  · show ([] : List Int).length < 1000
    decide
theorem best_free {j : Nat} (hs : Sml TT SS) (hE : shopE TT SS = 0) (h8 : TT.length ≤ 8) (hj : j < TT.length) : mspF (frT TT j) (bstR (frT TT j) SS) ≤ mspF TT (bstR TT SS) := by
  have hE2 := fr_shop hs hE hj
  have h1 := (bst_best (fit_of hs hE) hE h8).1
  have h2 := (bst_best (fit_of (fr_sml hs) hE2) hE2 (by rw [fr_len]; exact h8)).2 _ (fr_sch hj h1)
  rwa [fr_msp hj (bstR TT SS)] at h2
/-! ### twice the durations -/
def twK (t : Tk) : Tk := ⟨t.nm, t.du * 2, t.tl, t.af⟩
def twT (TT : List Tk) : List Tk := TT.map twK
theorem tw_get (TT : List Tk) (k : Nat) : (twT TT).getD k default = twK (TT.getD k default) := by
  unfold twT
  rw [List.getD_eq_getElem?_getD, List.getD_eq_getElem?_getD, List.getElem?_map]
  cases TT[k]? with
  | none => rfl
  | some t => rfl
def dbJ (j : Jb) : Jb := (j.1, j.2.1, 2 * j.2.2)
def dbS (s : SSt) : SSt := (s.1.map dbJ, s.2.1, s.2.2.map fun x => 2 * x)
theorem db_get (J : List Jb) (k : Nat) : (J.map dbJ).getD k (0, 0, 0) = dbJ (J.getD k (0, 0, 0)) := by
  rw [List.getD_eq_getElem?_getD, List.getD_eq_getElem?_getD, List.getElem?_map]
  cases J[k]? with
  | none => rfl
  | some t => rfl
theorem db_free (F : List Int) (k : Nat) : (F.map fun x => 2 * x).getD k 0 = 2 * F.getD k 0 := by
  rw [List.getD_eq_getElem?_getD, List.getD_eq_getElem?_getD, List.getElem?_map]
  cases F[k]? with
  | none => rfl
  | some t => rfl
theorem db_end (TT : List Tk) (j : Jb) : endF (twT TT) (dbJ j) = 2 * endF TT j := by
  unfold endF
  rw [tw_get]
  show 2 * j.2.2 + (TT.getD j.1.toNat default).du * 2 = _
  omega
theorem max_two (a b : Int) : max (2 * a) (2 * b) = 2 * max a b := by omega
theorem db_rdy (TT : List Tk) (J : List Jb) (i : Nat) : rdyJ (twT TT) (J.map dbJ) i = 2 * rdyJ TT J i := by
  have key : ∀ (A : List Int) (m : Int), A.foldl (fun t k => max t (endF (twT TT) ((J.map dbJ).getD k.toNat (0, 0, 0)))) (2 * m) = 2 * A.foldl (fun t k => max t (endF TT (J.getD k.toNat (0, 0, 0)))) m := by
    intro A
    induction A with
    | nil => intro m; rfl
    | cons x A ih =>
      intro m
      rw [List.foldl_cons, List.foldl_cons, db_get, db_end, max_two]
      exact ih _
  unfold rdyJ
  rw [tw_get]
  exact key _ 0
theorem db_sta (TT : List Tk) (s : SSt) (i k : Nat) : staF (twT TT) (dbS s).1 (dbS s).2.2 i k = 2 * staF TT s.1 s.2.2 i k := by
  unfold staF
  show max ((s.2.2.map fun x => 2 * x).getD k 0) (rdyJ (twT TT) (s.1.map dbJ) i) = _
  rw [db_free, db_rdy, max_two]
theorem db_step (TT : List Tk) (s : SSt) (i k : Nat) : jbS (twT TT) (dbS s) i k = dbS (jbS TT s i k) := by
  have e := db_sta TT s i k
  have e1 : putJ (twT TT) (dbS s).1 (dbS s).2.2 i k = (putJ TT s.1 s.2.2 i k).map dbJ := by
    unfold putJ
    rw [e, List.map_set]; rfl
  have e2 : putF (twT TT) (dbS s).1 (dbS s).2.2 i k = (putF TT s.1 s.2.2 i k).map fun x => 2 * x := by
    unfold putF
    rw [e, List.map_set]
    show List.set _ k (endF (twT TT) (dbJ ((i : Int), (k : Int), staF TT s.1 s.2.2 i k))) = _
    rw [db_end]; rfl
  show (putJ (twT TT) (dbS s).1 (dbS s).2.2 i k, s.2.1.set i true, putF (twT TT) (dbS s).1 (dbS s).2.2 i k) = _
  rw [e1, e2]; rfl
theorem db_opn (TT : List Tk) (D : List Bool) (i : Nat) : opnF (twT TT) D i = opnF TT D i := by
  unfold opnF
  rw [tw_get]; rfl
theorem db_can (TT : List Tk) (SS : List Sn) (i k : Nat) : caA (twT TT) SS i k = caA TT SS i k := by
  unfold caA
  rw [tw_get]; rfl
theorem db_beg (TT : List Tk) (SS : List Sn) : begS (twT TT) SS = dbS (begS TT SS) := by
  unfold begS dbS twT
  rw [List.length_map]
  simp [dbJ]
theorem db_fmx (F : List Int) : fmx (F.map fun x => 2 * x) = 2 * fmx F := by
  have key : ∀ (A : List Int) (m : Int), (A.map fun x => 2 * x).foldl max (2 * m) = 2 * A.foldl max m := by
    intro A
    induction A with
    | nil => intro m; rfl
    | cons x A ih =>
      intro m
      rw [List.map_cons, List.foldl_cons, List.foldl_cons, max_two]
      exact ih _
  exact key F 0
theorem db_vl : ∀ (m : Nat) (s : SSt) (v : Int), vlS (twT TT) SS m (dbS s) v ↔ ∃ u, v = 2 * u ∧ vlS TT SS m s u := by
  intro m
  induction m with
  | zero =>
    intro s v
    show v = fmx (s.2.2.map fun x => 2 * x) ↔ ∃ u, v = 2 * u ∧ u = fmx s.2.2
    rw [db_fmx]
    exact ⟨fun h => ⟨_, h, rfl⟩, fun ⟨u, h, e⟩ => by rw [h, e]⟩
  | succ m ih =>
    intro s v
    have hl : (twT TT).length = TT.length := by unfold twT; rw [List.length_map]
    constructor
    · rintro ⟨i, k, hi, hk, ho, hc, hv⟩
      rw [db_step] at hv
      obtain ⟨u, e, hu⟩ := (ih _ _).1 hv
      refine ⟨u, e, i, k, by omega, hk, ?_, ?_, hu⟩
      · rw [← db_opn]; exact ho
      · rw [← db_can]; exact hc
    · rintro ⟨u, e, i, k, hi, hk, ho, hc, hv⟩
      refine ⟨i, k, by omega, hk, ?_, ?_, ?_⟩
      · show opnF (twT TT) s.2.1 i = true
        rw [db_opn]; exact ho
      · rw [db_can]; exact hc
      · rw [db_step]; exact (ih _ _).2 ⟨u, e, hv⟩
theorem LeP.uniq {V : Int → Prop} {l m : Int} (h : LeP V l) (g : LeP V m) : l = m := by
  rcases h with ⟨h1, h2⟩ | ⟨h1, h2, h3⟩
  · rcases g with ⟨g1, _⟩ | ⟨_, g2, _⟩
    · omega
    · exact absurd g2 (h2 _)
  · rcases g with ⟨_, g2⟩ | ⟨_, g2, g3⟩
    · exact absurd h2 (g2 _)
    · exact Int.le_antisymm (h3 _ g2) (g3 _ h2)
/-- a least value exists -/
theorem LeP.ex {V : Int → Prop} (h : ∀ v, V v → 0 ≤ v) : ∃ l, LeP V l := by
  by_cases hv : ∃ v, V v
  · obtain ⟨v, hv⟩ := hv
    have key : ∀ (m : Nat) (v : Int), V v → v.toNat ≤ m → ∃ l, LeP V l := by
      intro m
      induction m with
      | zero =>
        intro v hv hm
        exact ⟨v, .inr ⟨h v hv, hv, fun u hu => by have := h u hu; omega⟩⟩
      | succ m ih =>
        intro v hv hm
        by_cases hc : ∃ u, V u ∧ u < v
        · obtain ⟨u, hu, hlt⟩ := hc
          exact ih u hu (by have := h u hu; omega)
        · exact ⟨v, .inr ⟨h v hv, hv, fun u hu => Classical.byContradiction fun g => hc ⟨u, hu, by omega⟩⟩⟩
    exact key v.toNat v hv (Nat.le_refl _)
  · exact ⟨-1, .inl ⟨rfl, fun v hv2 => hv ⟨v, hv2⟩⟩⟩
theorem vl_nn : ∀ (m : Nat) (s : SSt) (v : Int), vlS TT SS m s v → 0 ≤ v := by
  intro m
  induction m with
  | zero => intro s v h; have h : v = fmx s.2.2 := h; rw [h]; exact (fmx_max _).1
  | succ m ih => rintro s v ⟨i, k, _, _, _, _, h⟩; exact ih _ _ h
theorem tw_sml (hs : Sml TT SS) : Sml (twT TT) SS := by
  refine ⟨by unfold twT; rw [List.length_map]; exact hs.n, hs.m, fun t ht => ?_, hs.s⟩
  unfold twT at ht
  obtain ⟨u, hu, rfl⟩ := List.mem_map.1 ht
  exact hs.a u hu
theorem best_twice (hs : Sml TT SS) (hE : shopE TT SS = 0) (hE2 : shopE (twT TT) SS = 0) (h8 : TT.length ≤ 8) : mspF (twT TT) (bstR (twT TT) SS) = 2 * mspF TT (bstR TT SS) := by
  have hl : (twT TT).length = TT.length := by unfold twT; rw [List.length_map]
  obtain ⟨l, hLe⟩ := LeP.ex (vl_nn (TT := TT) (SS := SS) TT.length (begS TT SS))
  obtain ⟨l2, hLe2⟩ := LeP.ex (vl_nn (TT := twT TT) (SS := SS) (twT TT).length (begS (twT TT) SS))
  have e1 := bst_least (fit_of hs hE) hE h8 hLe
  have e2 := bst_least (fit_of (tw_sml hs) hE2) hE2 (by omega) hLe2
  obtain ⟨g1, _⟩ := bst_best (fit_of hs hE) hE h8
  rw [← e1, ← e2]
  have h0 : 0 ≤ l := by rw [e1]; exact g1.msp.1
  refine LeP.uniq hLe2 ?_
  rw [hl, db_beg]
  rcases hLe with ⟨h1, _⟩ | ⟨_, h2, h3⟩
  · omega
  · refine .inr ⟨by omega, (db_vl _ _ _).2 ⟨l, rfl, h2⟩, fun v hv => ?_⟩
    obtain ⟨u, rfl, hu⟩ := (db_vl _ _ _).1 hv
    have := h3 u hu
    omega
end
end Go.Proofs.YtnlkffccobdbjaaGreat
