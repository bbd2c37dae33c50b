/- A layer over the wp of loaded Go code: WP is sound; the entry of a function; calls; loops. No condition. -/
import Derived.Test.YtdjhgcpmipglfaaDw9
import Derived.Deep.LoopGhost
namespace Go.Dw
open Go Go.RowKit

def conc (n : Nat) (w0 : World) (Q : Ex → Tm → List Ch → Prop) : Exit → Act → World → Prop
  | .normal, a, w => ∃ t s, Fr n t s a ∧ Ok w0 s w ∧ Q .normal t s
  | .exit i, a, w => ∃ t s, Fr n t s a ∧ Ok w0 s w ∧ Q (.exit i) t s
  | .ret, a, w => ∃ t s, Fr n t s a ∧ Ok w0 s w ∧ Q .ret t s
  | _, _, _ => False

theorem conc_mono {n : Nat} {w0 : World} {Q Q' : Ex → Tm → List Ch → Prop} (h : ∀ e t s, Q e t s → Q' e t s) : ∀ e a w, conc n w0 Q e a w → conc n w0 Q' e a w
  | .normal, _, _, ⟨t, s, h1, h2, h3⟩ => ⟨t, s, h1, h2, h _ _ _ h3⟩
  | .exit _, _, _, ⟨t, s, h1, h2, h3⟩ => ⟨t, s, h1, h2, h _ _ _ h3⟩
  | .ret, _, _, ⟨t, s, h1, h2, h3⟩ => ⟨t, s, h1, h2, h _ _ _ h3⟩

theorem WP_sound {X : Ctx} (hX : X.Good) {w0 : World} : ∀ (c : Code) (Q : Ex → Tm → List Ch → Prop) (t : Tm) (s : List Ch) (a : Act) (w : World),
    WP X c Q t s → Fr X.n t s a → Ok w0 s w → c.wp X.P (conc X.n w0 Q) a w := by
  intro c
  induction c with
  | skip => intro Q t s a w h hf hok; exact wp_skip ⟨t, s, hf, hok, h⟩
  | label l => intro Q t s a w h hf hok; exact wp_label ⟨t, s, hf, hok, h⟩
  | exit id => intro Q t s a w h hf hok; exact wp_exit ⟨t, s, hf, hok, h⟩
  | ret => intro Q t s a w h hf hok; exact wp_ret ⟨t, s, hf, hok, h⟩
  | refuse why => intro Q t s a w h hf hok; exact h.elim
  | goto l => intro Q t s a w h hf hok; exact h.elim
  | scope b ih => intro Q t s a w h hf hok; exact h.elim
  | rangeFunc f ps x b ih1 ih2 => intro Q t s a w h hf hok; exact h.elim
  | seq x y ihx ihy =>
    intro Q t s a w h hf hok
    refine wp_seq (wp_mono (ihx _ t s a w h hf hok) fun e a' w' hq => ?_)
    cases e with
    | normal => obtain ⟨t', s', h1, h2, h3⟩ := hq; exact ihy Q t' s' a' w' h3 h1 h2
    | exit i => obtain ⟨t', s', h1, h2, h3⟩ := hq; exact ⟨t', s', h1, h2, h3⟩
    | ret => obtain ⟨t', s', h1, h2, h3⟩ := hq; exact ⟨t', s', h1, h2, h3⟩
    | goto l => exact hq.elim
    | panic c => exact hq.elim
    | outgrown => exact hq.elim
  | cond c x y ihx ihy =>
    intro Q t s a w h hf hok
    obtain ⟨tv, h1, h2⟩ := hf.w.tvk h
    cases tv with
    | bx _ _ => exact h2.elim
    | bs _ _ => exact h2.elim
    | v v =>
      simp only [TV.val, Option.some.injEq] at h1
      cases v <;> try exact h2.elim
      rename_i b
      refine wp_cond h1.symm ?_
      cases b with
      | true => exact ihx Q t s a w h2 hf hok
      | false => exact ihy Q t s a w h2 hf hok
  | block id c ih =>
    intro Q t s a w h hf hok
    refine wp_block (wp_mono (ih _ t s a w h hf hok) fun e a' w' hq => ?_)
    cases e with
    | normal => obtain ⟨t', s', h1, h2, h3⟩ := hq; exact ⟨t', s', h1, h2, h3⟩
    | exit i =>
      obtain ⟨t', s', h1, h2, h3⟩ := hq
      simp only [Exit.inBlock]
      by_cases hi : i = id
      · subst hi
        rw [if_pos rfl]
        simp only [Nat.beq_refl] at h3
        exact ⟨t', s', h1, h2, h3⟩
      · rw [if_neg hi]
        have : Nat.beq i id = false := by cases e : Nat.beq i id with
          | false => rfl
          | true => exact absurd (Nat.eq_of_beq_eq_true e) hi
        simp only [this] at h3
        exact ⟨t', s', h1, h2, h3⟩
    | ret => obtain ⟨t', s', h1, h2, h3⟩ := hq; exact ⟨t', s', h1, h2, h3⟩
    | goto l => exact hq.elim
    | panic c => exact hq.elim
    | outgrown => exact hq.elim
  | loop c ih =>
    intro Q t s a w h hf hok
    obtain ⟨G, I, S, R, m, g0, h0, e0, round⟩ := h
    refine wp_loop_ghost (fun k a w => ∃ g, R g ∧ m g = k ∧ Ok w0 (S g) w ∧ Fr X.n (I g) (S g) a) (m g0) ⟨g0, h0, rfl, (e0 _ w0 w a hok hf).1, (e0 _ w0 w a hok hf).2⟩ ?_
    rintro k a w ⟨g, hR, rfl, hok, hf⟩
    refine wp_mono (ih _ _ _ a w (round g hR ⟨w0, w, hok⟩) hf hok) fun e a' w' hq => ?_
    cases e with
    | normal =>
      obtain ⟨t', s', h1, h2, g', h3, h4, h5⟩ := hq
      exact ⟨m g', h4, g', h3, rfl, (h5 _ w0 w' a' h2 h1).1, (h5 _ w0 w' a' h2 h1).2⟩
    | exit i => obtain ⟨t', s', h1, h2, h3⟩ := hq; exact ⟨t', s', h1, h2, h3⟩
    | ret => obtain ⟨t', s', h1, h2, h3⟩ := hq; exact ⟨t', s', h1, h2, h3⟩
    | goto l => exact hq.elim
    | panic c => exact hq.elim
    | outgrown => exact hq.elim
  | region id ops draw =>
    intro Q t s a w h hf hok
    obtain ⟨ops⟩ := ops
    cases draw with
    | false =>
      refine wp_region_list ?_
      exact wops_ok hX (fun t s a w hf hok hq => ⟨t, s, hf, hok, hq⟩) ops t s a w h hf hok
    | true =>
      obtain ⟨h⟩ := h
      refine wp_region_any hX.1 ?_
      exact h w0 w a _ hok hf (fun t s a w hok hf hq => ⟨t, s, hf, hok, hq⟩) (fun c a w hq => hq)

/-! ### The entry of a function, and its end -/
/-- The results' values, read at the end. -/
def res1 (X : Ctx) (s : List Ch) (t : Tm) : ResultVar → (Value → Prop) → Prop
  | .tmp i, q => val s t (.tmp i) q
  | .cell i T, q => tvk s t (.tmp i) fun tv => match tv with
    | .bx i off => match sget s i with
      | some (.box _ cs _) => loadBox X T cs off fun tv => match tv with | .v x => q x | _ => False
      | _ => False
    | _ => False
def resL (X : Ctx) (s : List Ch) (t : Tm) : List ResultVar → (List Value → Prop) → Prop
  | [], q => q []
  | r :: rs, q => res1 X s t r fun v => resL X s t rs fun vs => q (v :: vs)
def resk (X : Ctx) (s : List Ch) (t : Tm) (rs : List ResultVar) (q : Value → Prop) : Prop := resL X s t rs fun vs => match vs with
  | [v] => q v
  | [] => q (.tuple #[])
  | v :: u :: r => q (.tuple (v :: u :: r).toArray)

def resOne (tmps : Array Value) : ResultVar → Sem Value
  | .tmp t => pure (tmps.getD t undef)
  | .cell a t => do loadVar t (← asAddr (tmps.getD a undef))

theorem res1_ok {X : Ctx} (hX : X.Good) {t : Tm} {s : List Ch} {a : Act} {w : World} (hf : Frw t s a) (hm : Mem s w) {r : ResultVar} {q : Value → Prop} (h : res1 X s t r q) :
    ∃ v, (resOne a.tmps r).run X.P w = .ok v w ∧ q v := by
  cases r with
  | tmp i => exact ⟨_, rfl, hf.val h⟩
  | cell i T =>
    obtain ⟨tv, h1, h2⟩ := hf.tvk h
    cases tv with
    | v _ => exact h2.elim
    | bs _ _ => exact h2.elim
    | bx j off =>
      obtain ⟨b, cs, T', hs, hv⟩ := tv_bx h1
      simp only [hs] at h2
      obtain ⟨v, h3, h4⟩ := run_loadBox hX hs h2
      refine ⟨v, ?_, h3⟩
      have hv' : a.tmps.getD i undef = .pointer (some ⟨b, off, none⟩) := hv
      simp only [resOne, hv', asAddr, Sem.run_bind, Sem.run_pure, Result.andThen_ok]
      exact h4 w hm

theorem resL_ok {X : Ctx} (hX : X.Good) {t : Tm} {s : List Ch} {a : Act} {w : World} (hf : Frw t s a) (hm : Mem s w) : ∀ {rs : List ResultVar} {q : List Value → Prop}, resL X s t rs q →
    ∃ vs, (rs.mapM (resOne a.tmps)).run X.P w = .ok vs w ∧ q vs
  | [], q, h => ⟨[], by simp, h⟩
  | r :: rs, q, h => by
    obtain ⟨v, h1, h2⟩ := res1_ok hX hf hm h
    obtain ⟨vs, h3, h4⟩ := resL_ok hX hf hm h2
    exact ⟨v :: vs, by simp [List.mapM_cons, h1, h3], h4⟩

theorem resk_ok {X : Ctx} (hX : X.Good) {t : Tm} {s : List Ch} {a : Act} {w : World} (hf : Frw t s a) (hm : Mem s w) {rs : List ResultVar} {q : Value → Prop} (h : resk X s t rs q) {fn : Func} (hr : fn.results = rs.toArray) :
    ∃ v, (results fn a.tmps).run X.P w = .ok v w ∧ q v := by
  obtain ⟨vs, h1, h2⟩ := resL_ok hX hf hm h
  have e : results fn a.tmps = (do let vs ← fn.results.mapM (resOne a.tmps); pure (if h : vs.size = 1 then vs[0] else .tuple vs)) := by
    unfold results
    have e2 : (fun r => match r with | .tmp t => pure (a.tmps.getD t undef) | .cell b t => do loadVar t (← asAddr (a.tmps.getD b undef)) : ResultVar → Sem Value) = resOne a.tmps := by
      funext r
      cases r <;> rfl
    rw [← e2]
    rfl
  rw [e, hr, Array.mapM_eq_mapM_toList]
  match vs, h1, h2 with
  | [], h1, h2 => exact ⟨_, by simp [h1], h2⟩
  | [v], h1, h2 => exact ⟨_, by simp [h1], h2⟩
  | v :: u :: r, h1, h2 => exact ⟨_, by simp [h1], h2⟩

def iniT : Nat → List Value → Tm
  | _, [] => []
  | i, v :: r => (i, .v v) :: iniT (i + 1) r

theorem aget_iniT : ∀ (l : List Value) (k i : Nat) (tv : TV), aget (iniT k l) i = some tv → ∃ v, tv = .v v ∧ k ≤ i ∧ l[i - k]? = some v
  | [], k, i, tv, h => by cases h
  | v :: r, k, i, tv, h => by
    simp only [iniT] at h
    rw [aget_cons] at h
    split at h
    · rename_i e; subst e; cases h; exact ⟨v, rfl, Nat.le_refl _, by simp⟩
    · rename_i e
      obtain ⟨u, h1, h2, h3⟩ := aget_iniT r (k + 1) i tv h
      refine ⟨u, h1, by omega, ?_⟩
      rw [show i - k = (i - (k + 1)) + 1 by omega]
      simpa using h3

/-- What is left of a function's proof: its code from its arguments on. -/
theorem enter {X : Ctx} (hX : X.Good) {f : Nat} {fn : Func} {c : Code} {args : List Value} {w : World} {R : Value → List Ch → Prop} (rs : List ResultVar)
    (hf : X.P.funcs[f]? = some fn) (hb : fn.body = some c) (hn : (fn.name == "runtime.NumGoroutine") = false) (hr : fn.results = rs.toArray) (hm : fn.ntmps = X.n) (hl : Nat.ble args.length X.n = true)
    (h : WP X c (fun e t s => match e with
      | .exit _ => False
      | _ => resk X s t rs fun v => ∃ cs, R v cs ∧ ∀ w', Ok w s w' → Ok w (.hp (Hp.whole w) :: cs) w') (iniT 0 args) [.hp (Hp.whole w)]) :
    CallsE X.P f args.toArray w (Ret w R) := by
  have hl := Nat.le_of_ble_eq_true hl
  refine ⟨fun w => ?_, calls_of_wp hf hb ?_⟩
  · have hn' : ¬ fn.name = "runtime.NumGoroutine" := by simpa using hn
    simp [callFunc, hf, hn', hb]
  · refine wp_mono (WP_sound hX c _ _ _ _ w h ⟨by simp [hm]; omega, rfl, fun i tv hi => ?_⟩ (Ok.start w)) fun e a w' hq => ?_
    · obtain ⟨v, rfl, _, h2⟩ := aget_iniT args 0 i tv hi
      refine ⟨v, rfl, ?_⟩
      have : i < args.length := (List.getElem?_eq_some_iff.1 (by simpa using h2)).1
      rw [Array.getElem?_append_left (by simpa using this)]
      simpa using h2
    · have fin : ∀ t s, Fr X.n t s a → Ok w s w' → (resk X s t rs fun v => ∃ cs, R v cs ∧ ∀ w', Ok w s w' → Ok w (.hp (Hp.whole w) :: cs) w') →
          a.defers = [] ∧ ∃ v, (results fn a.tmps).run X.P w' = .ok v w' ∧ Ret w R (.returned v) w' := by
        intro t s hf' hok hk
        obtain ⟨v, h1, cs, h2, h3⟩ := resk_ok hX hf'.w hok.mem hk hr
        exact ⟨hf'.2.1, v, h1, v, cs, rfl, h3 w' hok, h2⟩
      cases e with
      | normal => obtain ⟨t, s, h1, h2, h3⟩ := hq; exact fin t s h1 h2 h3
      | ret => obtain ⟨t, s, h1, h2, h3⟩ := hq; exact fin t s h1 h2 h3
      | exit i => obtain ⟨t, s, h1, h2, h3⟩ := hq; exact h3.elim
      | goto l => exact hq.elim
      | panic c => exact hq.elim
      | outgrown => exact hq.elim
end Go.Dw
