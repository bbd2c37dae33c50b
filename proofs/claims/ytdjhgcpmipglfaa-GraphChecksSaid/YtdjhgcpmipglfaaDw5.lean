/- A layer over the wp of loaded Go code: the operations that only read are sound. No condition. -/
import Derived.Test.YtdjhgcpmipglfaaDw4
namespace Go.Dw
open Go Go.RowKit

/-- what an operation that only reads comes to -/
def QOk (P : Program) (s : List Ch) (e : Sem Next) (q : TV → Prop) : Prop := ∃ tv v, tv.val s = some v ∧ q tv ∧ ∀ w, Mem s w → e.run P w = .ok (.value v) w
theorem NeedQ.ok {P : Program} {s : List Ch} {e : Sem Value} {q : TV → Prop} (h : NeedQ P s e q) : QOk P s (do pure (.value (← e))) q := by
  obtain ⟨v, h1, h2⟩ := h
  exact ⟨.v v, v, rfl, h2, fun w hw => by simp [h1 w hw]⟩
theorem QOk.mono {P : Program} {s : List Ch} {e e' : Sem Next} {q : TV → Prop} (h : QOk P s e q) (he : ∀ w, e'.run P w = e.run P w) : QOk P s e' q := by
  obtain ⟨tv, v, h1, h2, h3⟩ := h
  exact ⟨tv, v, h1, h2, fun w hw => by rw [he, h3 w hw]⟩

theorem eqGuard_int {P : Program} {w : World} (op : BinOp) (t : TypeId) (x y : Operand) (k j : IntKind) (a b : Int) : (eqGuard op t x y (.int k a) (.int j b)).run P w = .ok () w := by
  unfold eqGuard; split <;> rfl

theorem wint_ok {P : Program} {s : List Ch} {op : BinOp} {ty : Nat} {i : IntKind} {x y : Int} {q : TV → Prop} (h : wint P s op ty i x y q) :
    QOk P s (do pure (.value (← binOp op ty (.int i x) (.int i y)))) q := by
  cases op <;> simp only [wint] at h
  case add => obtain ⟨z, h1, h2⟩ := h; exact ⟨_, _, rfl, h2, fun w _ => by simp [binOp, Op.intArith, h1]⟩
  case sub => obtain ⟨z, h1, h2⟩ := h; exact ⟨_, _, rfl, h2, fun w _ => by simp [binOp, Op.intArith, h1]⟩
  case mul => obtain ⟨z, h1, h2⟩ := h; exact ⟨_, _, rfl, h2, fun w _ => by simp [binOp, Op.intArith, h1]⟩
  case eql => exact ⟨_, _, rfl, h, fun w _ => by simp [binOp, Op.intCmp]; rfl⟩
  case neq => exact ⟨_, _, rfl, h, fun w _ => by simp [binOp, Op.intCmp, bne]; rfl⟩
  case lss => exact ⟨_, _, rfl, h, fun w _ => by simp [binOp, Op.intCmp]⟩
  case leq => exact ⟨_, _, rfl, h, fun w _ => by simp [binOp, Op.intCmp]⟩
  case gtr => exact ⟨_, _, rfl, h, fun w _ => by simp [binOp, Op.intCmp]⟩
  case geq => exact ⟨_, _, rfl, h, fun w _ => by simp [binOp, Op.intCmp]⟩
  all_goals exact h.ok

theorem wbin_ok {P : Program} {s : List Ch} {op : BinOp} {ty : Nat} {xo yo : Operand} {a b : Value} {q : TV → Prop} (h : wbin P s op ty xo yo a b q) :
    QOk P s (do pure (.value (← (do eqGuard op ty xo yo a b; binOp op ty a b)))) q := by
  have gen : NeedQ P s (do eqGuard op ty xo yo a b; binOp op ty a b) q → QOk P s (do pure (.value (← (do eqGuard op ty xo yo a b; binOp op ty a b)))) q := fun h => h.ok
  cases a <;> cases b <;> simp only [wbin] at h <;> try exact gen h
  rename_i i x j y
  by_cases hij : i = j
  · subst hij
    simp only [decide_true] at h
    exact (wint_ok h).mono fun w => by simp [eqGuard_int]
  · simp only [hij, decide_false] at h
    exact gen h

theorem wbuild_ok {t : Tm} {s : List Ch} {a : Act} (hf : Frw t s a) {place : Nat → Option (Nat × Nat)} :
    ∀ {parts : List (Nat × Operand)} {cs : List Value} {q : List Value → Prop}, wbuild s t place parts cs q →
    ∃ cs' : List Value, q cs' ∧ Instr.fill place cs.toArray (parts.map fun p => (p.1, a.eval p.2)) = some cs'.toArray
  | [], cs, q, h => by simp only [wbuild, forceL_eq] at h; exact ⟨cs, h, rfl⟩
  | (i, x) :: r, cs, q, h => by
    simp only [wbuild] at h
    have h1 := cellsOf_sound (hf.val h)
    cases hp : place i with
    | none => simp [hp] at h1
    | some os =>
      obtain ⟨off, size⟩ := os
      simp only [hp] at h1
      cases hb : Nat.beq (lenL (a.eval x).cells.toList) size with
      | false => simp [hb] at h1
      | true =>
        simp only [hb] at h1
        cases hl : putL cs off (a.eval x).cells.toList with
        | none => simp [hl] at h1
        | some cs' =>
          simp only [hl] at h1
          obtain ⟨cs'', hq, hfill⟩ := wbuild_ok hf h1
          refine ⟨cs'', hq, ?_⟩
          have hsz : (a.eval x).cells.size = size := by
            have := Nat.eq_of_beq_eq_true hb
            rw [lenL_eq] at this
            simpa using this
          obtain ⟨h2, h3⟩ := putL_eq _ _ _ _ hl
          simp only [Array.length_toList] at h2 h3
          simp only [List.map_cons, Instr.fill, hp]
          rw [if_neg (by simp [hsz]; omega), ← hfill]
          congr 1
          -- the fold of stores is the splice
          have key : ∀ (vs : List Value) (k : Nat) (l : List Value), off + k + vs.length ≤ l.length →
              (vs.zipIdx k).foldl (fun (cs : Array Value) (p : Value × Nat) => cs.setIfInBounds (off + p.2) p.1) l.toArray = (l.take (off + k) ++ vs ++ l.drop (off + k + vs.length)).toArray := by
            intro vs
            induction vs with
            | nil => intro k l _; simp
            | cons v vs ih =>
              intro k l hle
              simp only [List.length_cons] at hle
              simp only [List.zipIdx_cons, List.foldl_cons, List.setIfInBounds_toArray]
              rw [ih (k + 1) _ (by simp; omega)]
              congr 1
              apply List.ext_getElem?
              intro j
              simp only [List.append_assoc, List.getElem?_append, List.length_take, List.length_set, List.getElem?_take, List.getElem?_drop, List.getElem?_set, List.length_cons, List.getElem?_cons]
              have e1 : min (off + (k + 1)) l.length = off + k + 1 := by omega
              have e2 : min (off + k) l.length = off + k := by omega
              rw [e1, e2]
              by_cases c1 : j < off + k
              · simp [c1, show j < off + k + 1 by omega, show ¬ off + k = j by omega, show j < off + (k + 1) by omega]
              · by_cases c2 : j = off + k
                · subst c2; simp [show off + k < l.length by omega, show off + k < off + (k + 1) by omega]
                · have c3 : ¬ j < off + k + 1 := by omega
                  simp only [c1, c3, if_false]
                  by_cases c4 : j - (off + k + 1) < vs.length
                  · simp [c4, show j - (off + k) ≠ 0 by omega, show j - (off + k) < vs.length + 1 by omega, show j - (off + k) - 1 = j - (off + k + 1) by omega]
                  · simp only [c4, if_false, show ¬ j - (off + k) < vs.length + 1 by omega]
                    rw [if_neg (by omega)]
                    congr 1
                    omega
          have := key (a.eval x).cells.toList 0 cs (by simpa using h2)
          simp only [Nat.add_zero, Array.length_toList] at this
          rw [h3, ← this]
          simp only [← Array.foldl_toList, Array.toList_zipIdx]

section
variable {X : Ctx} {t : Tm} {s : List Ch} {a : Act}
theorem fill_build {T : Nat} {i : TI} (hg : GoodT X.P T i) {parts : List (Nat × Operand)} {cs : List Value} {place : Nat → Option (Nat × Nat)}
    (hpl : (∃ fs, i.k = .st fs ∧ place = fun j => match lget fs j with | some (off, ft) => (match tget X.tt ft with | some tf => some (off, tf.size) | none => none) | none => none) ∨
      (∃ m e te, i.k = .ar m e ∧ tget X.tt e = some te ∧ place = fun j => some (j * te.size, te.size)))
    (hX : X.Good) (hfs : ∀ fs, i.k = .st fs → ∀ f ∈ fs, (tget X.tt f.2).isSome = true)
    (h : Instr.fill place i.zero.toArray (parts.map fun p => (p.1, a.eval p.2)) = some cs.toArray) :
    ∀ w, (Instr.build T ((parts.map fun p => (p.1, a.eval p.2)).toArray)).run X.P w = .ok (.agg cs.toArray) w := by
  intro w
  obtain ⟨z, hz, hzc⟩ := hg.zero w
  unfold Instr.build
  simp only [Sem.run_bind, hz, Result.andThen_ok]
  rcases hpl with ⟨fs, hk, rfl⟩ | ⟨m, e, te, hk, hte, rfl⟩
  · have hk' := hg.2
    rw [hk] at hk'
    obtain ⟨fields, h1, h2⟩ := hk'
    have hu : (underlying T).run X.P w = .ok (.struct fields) w := by simp [underlying, h1]
    simp only [hu, Result.andThen_ok]
    have hm : ∀ (l : List Field), (∀ f : Field, f ∈ l → (tget X.tt f.type).isSome = true) → ∃ ps : List (Nat × Nat), (l.mapM (m := Sem) fun (f : Field) => do pure (f.offset, ← sizeOf f.type)).run X.P w = .ok ps w ∧
        ∀ j : Nat, ps[j]? = (match (l[j]? : Option Field) with | some f => (match tget X.tt f.type with | some tf => some (f.offset, tf.size) | none => none) | none => none) := by
      intro l
      induction l with
      | nil => intro _; exact ⟨[], by simp, fun j => by simp⟩
      | cons f l ih =>
        intro hl
        obtain ⟨ps, hp1, hp2⟩ := ih fun g hg => hl g (List.mem_cons_of_mem _ hg)
        obtain ⟨tf, htf⟩ := Option.isSome_iff_exists.1 (hl f (List.mem_cons_self))
        have := (Good.und hX htf).size w
        refine ⟨(f.offset, tf.size) :: ps, by simp only [List.mapM_cons, Sem.run_bind, this, Result.andThen_ok, Sem.run_pure, hp1], fun j => ?_⟩
        cases j with
        | zero => simp [htf]
        | succ j => simpa using hp2 j
    have hall : ∀ f : Field, f ∈ fields.toList → (tget X.tt f.type).isSome = true := by
      intro f hf
      have : (f.offset, f.type) ∈ fs := by rw [← h2]; exact List.mem_map.2 ⟨f, hf, rfl⟩
      exact hfs fs hk _ this
    obtain ⟨ps, hp1, hp2⟩ := hm fields.toList hall
    have hps : (fields.mapM (m := Sem) fun (f : Field) => do pure (f.offset, ← sizeOf f.type)).run X.P w = .ok ps.toArray w := by
      rw [Array.mapM_eq_mapM_toList]
      simp only [Sem.run_map, hp1, Result.andThen_ok]
    rw [Sem.run_bind, hps]
    simp only [Result.andThen_ok, hzc]
    have hpl : (fun i => ps.toArray[i]?) = fun j => match lget fs j with | some (off, ft) => (match tget X.tt ft with | some tf => some (off, tf.size) | none => none) | none => none := by
      funext j
      simp only [List.getElem?_toArray, hp2, lget_eq, ← h2, List.getElem?_map]
      cases fields.toList[j]? <;> simp
    rw [hpl, h]
    rfl
  · have hk' := hg.2
    rw [hk] at hk'
    have hu : (underlying T).run X.P w = .ok (.array m e) w := by simp [underlying, show X.P.underlying T = _ from hk']
    have hs := (Good.und hX hte).size w
    simp only [hu, Result.andThen_ok, Sem.run_bind, hs, hzc, h]
    rfl
end
end Go.Dw
