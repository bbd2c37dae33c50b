/- A layer over the wp of loaded Go code: every operation is sound. No condition. -/
import Derived.Test.YtdjhgcpmipglfaaDw6
namespace Go.Dw
open Go Go.RowKit

section
variable {X : Ctx} {t : Tm} {s : List Ch} {a : Act}

theorem op1 {α : Type} (o : Option α) (f : α → Value) : (o.map f).toList.head? = o.map f := by cases o <;> rfl
theorem opl {α β : Type} (o : Option α) (f : α → β) : (o.toList.map f).head? = o.map f := by cases o <;> rfl

theorem wq_ok (hX : X.Good) (hf : Frw t s a) {o : Oper} (hq : isQ o.op = true) {q : TV → Prop} (h : wq X s t o.op q) : QOk X.P s (execOp a.eval o) q := by
  obtain ⟨dst, op, ty, pos, after, guard⟩ := o
  have ho : (Oper.mk dst op ty pos after guard).op = op := rfl
  rw [ho] at hq h
  cases op <;> first | (exfalso; simp [isQ] at hq; done) | skip
  case move x =>
    obtain ⟨tv, h1, h2⟩ := hf.tvk h
    exact ⟨tv, _, h1, h2, fun w _ => rfl⟩
  case assign x =>
    obtain ⟨tv, h1, h2⟩ := hf.tvk h
    exact ⟨tv, _, h1, h2, fun w _ => rfl⟩
  case pick c x y =>
    have h1 := hf.val h
    cases hc : a.eval c <;> simp only [hc] at h1 <;> try exact h1.elim
    rename_i b
    cases b with
    | true => obtain ⟨tv, h2, h3⟩ := hf.tvk (show tvk s t x q from h1); exact ⟨tv, _, h2, h3, fun w _ => by simp [execOp, hc, asBool]⟩
    | false => obtain ⟨tv, h2, h3⟩ := hf.tvk (show tvk s t y q from h1); exact ⟨tv, _, h2, h3, fun w _ => by simp [execOp, hc, asBool]⟩
  case load T x => exact wq_load hX hf rfl h
  case nilCheck x =>
    obtain ⟨tv, h1, h2⟩ := hf.tvk h
    cases tv with
    | bx i off =>
      obtain ⟨b, cs, T', hs, hv⟩ := tv_bx h1
      exact ⟨.bx i off, _, h1, h2, fun w _ => by simp [execOp, hv]⟩
    | bs _ _ => exact h2.elim
    | v p =>
      simp only [TV.val, Option.some.injEq] at h1
      cases p <;> try exact h2.elim
      rename_i p
      cases p with
      | none => exact h2.elim
      | some p => exact ⟨_, _, rfl, h2, fun w _ => by simp [execOp, ← h1]⟩
  case binOp bo ty x y ty' =>
    have h1 := hf.val (hf.val h)
    exact (wbin_ok h1).mono fun w => by simp only [execOp]
  case unOp uo ty x =>
    have h1 := hf.val h
    have gen : NeedQ X.P s (Op.unary uo (a.eval x)) q → QOk X.P s (execOp a.eval ⟨dst, .unOp uo ty x, ty, pos, after, guard⟩) q := fun hn => (NeedQ.ok hn).mono fun w => by simp only [execOp]
    cases uo <;> cases hx : a.eval x <;> simp only [hx] at h1 gen <;> try exact gen h1
    · obtain ⟨z, h2, h3⟩ := h1
      exact ⟨_, _, rfl, h3, fun w _ => by simp only [execOp, hx, Op.unary, Op.intArith, Sem.run_bind, Sem.run_pure, Result.andThen_ok, h2]⟩
    · exact ⟨_, _, rfl, h1, fun w _ => by simp [execOp, hx, Op.unary]⟩
  case convert S T x =>
    have h1 := hf.val h
    have gen : NeedQ X.P s (convert S T (a.eval x)) q → QOk X.P s (execOp a.eval ⟨dst, .convert S T x, ty, pos, after, guard⟩) q := fun hn => (NeedQ.ok hn).mono fun w => by simp only [execOp]
    split at h1
    · rename_i k0 m k1 sz by' z k sz' by'' z' hv hS hT
      obtain ⟨zz, h2, h3⟩ := h1
      refine ⟨_, _, rfl, h3, fun w _ => ?_⟩
      have e1 := (Good.und hX hS).2
      have e2 := (Good.und hX hT).2
      have u1 : (underlying S).run X.P w = .ok (.int k1) w := by simp [underlying, show X.P.underlying S = _ from e1]
      have u2 : (underlying T).run X.P w = .ok (.int k) w := by simp [underlying, show X.P.underlying T = _ from e2]
      simp only [execOp, hv]
      refine run_v _ w _ ?_
      simp [convert, u1, u2, Conv.intToInt, h2]
    · exact gen h1
  case fieldAddr S x f => exact wq_fieldAddr hX hf rfl h
  case field S x f =>
    have h1 := hf.val h
    split at h1
    · rename_i cs fs sz by' z hv hS
      cases hl : lget fs f with
      | none => simp [hl] at h1
      | some of =>
        obtain ⟨fo, ft⟩ := of
        simp only [hl] at h1
        obtain ⟨v, hq', hrun⟩ := run_partBox hX h1
        obtain ⟨_, fields, hu, hfs⟩ := Good.und hX hS
        have hfld : ∃ fl : Field, fields[f]? = some fl ∧ fl.offset = fo ∧ fl.type = ft := by
          rw [lget_eq, ← hfs, List.getElem?_map] at hl
          cases hx : fields.toList[f]? with
          | none => simp [hx] at hl
          | some fl =>
            simp [hx] at hl
            exact ⟨fl, by simpa using hx, hl.1, hl.2⟩
        obtain ⟨fl, hf1, hf2, hf3⟩ := hfld
        refine ⟨.v v, v, rfl, hq', fun w _ => ?_⟩
        simp only [execOp, hv]
        refine run_v _ w _ ?_
        have hun : (underlying S).run X.P w = .ok (.struct fields) w := by simp [underlying, hu]
        simp [Instr.field, hun, hf1, asAgg, hf2, hf3, hrun w]
    · exact h1.elim
  case indexAddr S x ix => exact wq_indexAddr hX hf rfl h
  case index S x ix => exact (NeedQ.ok (hf.val (hf.val h))).mono fun w => by simp only [execOp]
  case extract x i =>
    have h1 := hf.val h
    split at h1
    · rename_i vs hv
      rw [lget_eq] at h1
      cases hi : vs[i]? with
      | none => simp [hi] at h1
      | some v =>
        simp only [hi] at h1
        exact ⟨_, _, rfl, h1, fun w _ => by simp [execOp, hv, Instr.extract, hi]⟩
    · exact h1.elim
  case slice S x lo hi mx =>
    have h1 := hf.vals (hf.vals (hf.vals (hf.val h)))
    simp only [opl] at h1
    exact (NeedQ.ok h1).mono fun w => by simp only [execOp]
  case makeFunc fn first cap =>
    have h1 := hf.vals (hf.vals h)
    refine ⟨_, _, rfl, h1, fun w _ => ?_⟩
    simp only [execOp, Instr.makeFunc, Sem.run_bind, Sem.run_pure, Result.andThen_ok]
    congr 3 <;> (apply Array.ext'; simp)
  case makeInterface T x =>
    have h1 := hf.val h
    cases hT : tget X.tt T with
    | none => simp [hT] at h1
    | some ti => simp only [hT] at h1; exact (NeedQ.ok h1).mono fun w => by simp only [execOp]
  case build T parts =>
    obtain ⟨parts⟩ := parts
    simp only [wq] at h
    split at h
    · rename_i T' fs sz by' z hT
      cases hk : known X fs with
      | false => simp [hk] at h
      | true =>
        simp only [hk] at h
        obtain ⟨cs, hq', hfill⟩ := wbuild_ok hf h
        refine ⟨_, _, rfl, hq', fun w _ => ?_⟩
        simp only [execOp]
        refine run_v _ w _ ?_
        have := fill_build (a := a) (Good.und hX hT) (cs := cs) (parts := parts) (.inl ⟨fs, rfl, rfl⟩) hX (fun fs' hfs' f hf' => by cases hfs'; exact known_sound X _ hk f hf') hfill w
        simpa using this
    · rename_i T' m e sz by' z hT
      cases hte : tget X.tt e with
      | none => simp [hte] at h
      | some te =>
        simp only [hte] at h
        obtain ⟨cs, hq', hfill⟩ := wbuild_ok hf h
        refine ⟨_, _, rfl, hq', fun w _ => ?_⟩
        simp only [execOp]
        refine run_v _ w _ ?_
        have := fill_build (a := a) (Good.und hX hT) (cs := cs) (parts := parts) (.inr ⟨m, e, te, rfl, hte, rfl⟩) hX (fun fs' hfs' => by cases hfs') hfill w
        simpa using this
    · exact h.elim
  case call c =>
    obtain ⟨callee, ⟨args⟩, tys⟩ := c
    cases callee <;> first | (exfalso; simp [isQ] at hq; done) | skip
    rename_i b
    cases b <;> first | (exfalso; simp [isQ] at hq; done) | skip
    obtain ⟨tys⟩ := tys
    match args, tys, hq, h with
    | [x], [T], _, h =>
      simp only [wq] at h
      obtain ⟨tv, h1, h2⟩ := hf.tvk h
      cases hT : tget X.tt T with
      | none => simp [hT] at h2
      | some ti =>
        obtain ⟨k, sz, by', z⟩ := ti
        have hg := (Good.und hX hT).2
        cases k <;> simp only [hT] at h2 <;> try exact h2.elim
        · have hu : ∀ w, (underlying T).run X.P w = .ok .string w := fun w => by simp [underlying, show X.P.underlying T = _ from hg]
          cases tv with
          | v v =>
            simp only [TV.val, Option.some.injEq] at h1
            cases v <;> try exact h2.elim
            exact ⟨_, _, rfl, h2, fun w _ => by simp [execOp, resolve, invoke, builtin, Builtin.len_, ← h1, hu, goInt]⟩
          | bx _ _ => exact h2.elim
          | bs _ _ => exact h2.elim
        · rename_i e
          have hu : ∀ w, (underlying T).run X.P w = .ok (.slice e) w := fun w => by simp [underlying, show X.P.underlying T = _ from hg]
          cases tv with
          | v v =>
            simp only [TV.val, Option.some.injEq] at h1
            cases v <;> try exact h2.elim
            exact ⟨_, _, rfl, h2, fun w _ => by simp [execOp, resolve, invoke, builtin, Builtin.len_, ← h1, hu, goInt]⟩
          | bx _ _ => exact h2.elim
          | bs i m =>
            obtain ⟨b, cs, T', hs, hv⟩ := tv_bs h1
            exact ⟨.v _, _, rfl, h2, fun w _ => by simp [execOp, resolve, invoke, builtin, Builtin.len_, hv, hu, goInt]⟩
end
end Go.Dw
