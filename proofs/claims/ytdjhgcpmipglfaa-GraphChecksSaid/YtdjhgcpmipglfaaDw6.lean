/- A layer over the wp of loaded Go code: wq is sound. No condition. -/
import Derived.Test.YtdjhgcpmipglfaaDw5
namespace Go.Dw
open Go Go.RowKit

theorem known_sound (X : Ctx) : ∀ (fs : List (Nat × Nat)), known X fs = true → ∀ f ∈ fs, (tget X.tt f.2).isSome = true
  | [], _, f, hf => by cases hf
  | (o, ft) :: r, h, f, hf => by
    simp only [known] at h
    cases ht : tget X.tt ft with
    | none => simp [ht] at h
    | some ti =>
      simp only [ht] at h
      rcases List.mem_cons.1 hf with rfl | hf
      · simp [ht]
      · exact known_sound X r h f hf

theorem tv_bx {s : List Ch} {i off : Nat} {v : Value} (h : TV.val s (.bx i off) = some v) : ∃ b cs T, sget s i = some (.box b cs T) ∧ v = .pointer (some ⟨b, off, none⟩) := by
  simp only [TV.val] at h
  cases hs : sget s i with
  | none => simp [hs] at h
  | some c =>
    cases c with
    | hp _ => simp [hs] at h
    | box b cs T => simp [hs] at h; exact ⟨b, cs, T, rfl, h.symm⟩
theorem tv_bs {s : List Ch} {i n : Nat} {v : Value} (h : TV.val s (.bs i n) = some v) : ∃ b cs T, sget s i = some (.box b cs T) ∧ v = .slice (some ⟨b, 0, none⟩) n n := by
  simp only [TV.val] at h
  cases hs : sget s i with
  | none => simp [hs] at h
  | some c =>
    cases c with
    | hp _ => simp [hs] at h
    | box b cs T => simp [hs] at h; exact ⟨b, cs, T, rfl, h.symm⟩

section
variable {X : Ctx} {t : Tm} {s : List Ch} {a : Act}

theorem run_v {P : Program} (e : Sem Value) (w : World) (v : Value) (h : e.run P w = .ok v w) : (do pure (Next.value (← e)) : Sem Next).run P w = .ok (.value v) w := by simp [h]

theorem wq_load (hX : X.Good) (hf : Frw t s a) {o : Oper} {T : Nat} {x : Operand} (ho : o.op = .load T x) {q : TV → Prop} (h : wq X s t (.load T x) q) : QOk X.P s (execOp a.eval o) q := by
  obtain ⟨tv, h1, h2⟩ := hf.tvk h
  cases tv with
  | v p =>
    simp only [TV.val, Option.some.injEq] at h1
    subst h1
    exact (NeedQ.ok h2).mono fun w => by simp only [execOp, ho]
  | bx i off =>
    obtain ⟨b, cs, T', hs, hv⟩ := tv_bx h1
    simp only [hs] at h2
    obtain ⟨v, hq, hrun⟩ := run_loadBox hX hs h2
    refine ⟨.v v, v, rfl, hq, fun w hw => ?_⟩
    simp only [execOp, ho, hv, Instr.loadAt, Instr.sureAddr]
    exact run_v _ w _ (by simp [hrun w hw])
  | bs i m => exact h2.elim

theorem wq_fieldAddr (hX : X.Good) (hf : Frw t s a) {o : Oper} {S f : Nat} {x : Operand} (ho : o.op = .fieldAddr S x f) {q : TV → Prop} (h : wq X s t (.fieldAddr S x f) q) : QOk X.P s (execOp a.eval o) q := by
  obtain ⟨tv, h1, h2⟩ := hf.tvk h
  cases ht : tget X.tt S with
  | none => simp [ht] at h2
  | some ti =>
    obtain ⟨k, sz, by', z⟩ := ti
    cases k <;> simp only [ht] at h2
    rename_i fs
    cases hl : lget fs f with
    | none => simp [hl] at h2
    | some of =>
      obtain ⟨fo, ft⟩ := of
      simp only [hl] at h2
      cases ht2 : tget X.tt ft with
      | none => simp [ht2] at h2
      | some tf =>
        obtain ⟨kf, szf, byf, zf⟩ := tf
        cases szf with
        | zero => simp [ht2] at h2
        | succ m =>
          simp only [ht2] at h2
          obtain ⟨_, fields, hu, hfs⟩ := Good.und hX ht
          have hfld : ∃ fl : Field, fields[f]? = some fl ∧ fl.offset = fo ∧ fl.type = ft := by
            rw [lget_eq, ← hfs, List.getElem?_map] at hl
            cases hx : fields.toList[f]? with
            | none => simp [hx] at hl
            | some fl =>
              simp [hx] at hl
              exact ⟨fl, by simpa using hx, hl.1, hl.2⟩
          obtain ⟨fl, hf1, hf2, hf3⟩ := hfld
          have hsz := fun w => (Good.und hX ht2).size w
          have key : ∀ b off w, (Instr.fieldAt S (.pointer (some ⟨b, off, none⟩)) f).run X.P w = .ok (.pointer (some ⟨b, off + fo, none⟩)) w := by
            intro b off w
            have hun : (underlying S).run X.P w = .ok (.struct fields) w := by simp [underlying, hu]
            simp only [Instr.fieldAt, Sem.run_bind, hun, Result.andThen_ok, hf1, Instr.sureAddr, Sem.run_pure, fieldPlace, hf3, hsz]
            simp [Addr.add_mk, hf2]
          cases tv with
          | bx i off =>
            obtain ⟨b, cs, T', hs, hv⟩ := tv_bx h1
            refine ⟨.bx i (off + fo), .pointer (some ⟨b, off + fo, none⟩), by simp [TV.val, hs], h2, fun w _ => ?_⟩
            simp only [execOp, ho, hv]
            exact run_v _ w _ (key b off w)
          | bs i m => exact h2.elim
          | v p =>
            simp only [TV.val, Option.some.injEq] at h1
            cases p <;> try exact h2.elim
            rename_i p
            cases p with
            | none => exact h2.elim
            | some ad =>
              obtain ⟨b, off, sp⟩ := ad
              cases sp with
              | some _ => exact h2.elim
              | none =>
                refine ⟨_, _, rfl, h2, fun w _ => ?_⟩
                simp only [execOp, ho, ← h1]
                exact run_v _ w _ (key b off w)

theorem wq_indexAddr (hX : X.Good) (hf : Frw t s a) {o : Oper} {S : Nat} {x ix : Operand} (ho : o.op = .indexAddr S x ix) {q : TV → Prop} (h : wq X s t (.indexAddr S x ix) q) : QOk X.P s (execOp a.eval o) q := by
  have h0 := hf.val h
  obtain ⟨tv, h1, h2⟩ := hf.tvk h0
  have gen : valk s tv (fun a' => NeedQ X.P s (Instr.indexAt S a' (a.eval ix)) q) → QOk X.P s (execOp a.eval o) q := by
    intro hg
    obtain ⟨v, h3, h4⟩ := TV.valk hg
    rw [h1] at h3; cases h3
    exact (NeedQ.ok h4).mono fun w => by simp only [execOp, ho]
  cases ht : tget X.tt S with
  | none => simp only [ht] at h2; exact gen h2
  | some ti =>
    obtain ⟨k, sz, by', z⟩ := ti
    cases k <;> simp only [ht] at h2 <;> try exact gen h2
    rename_i len e
    cases hte : tget X.tt e with
    | none => simp [hte] at h2
    | some te =>
      simp only [hte] at h2
      cases hiv : a.eval ix <;> simp only [hiv] at h2 gen <;> try exact h2.elim
      rename_i k m
      cases tv with
      | v _ => exact gen h2
      | bs _ _ => exact gen h2
      | bx i off =>
        simp only [] at h2
        cases m with
        | negSucc _ => exact gen h2
        | ofNat m =>
          simp only [] at h2
          cases hb : Nat.blt m len with
          | false => simp only [hb] at h2; exact gen h2
          | true =>
            simp only [hb] at h2
            obtain ⟨b, cs, T', hs, hv⟩ := tv_bx h1
            have hlt : m < len := by simpa [Nat.blt_eq] using hb
            refine ⟨.bx i (off + m * te.size), .pointer (some ⟨b, off + m * te.size, none⟩), by simp [TV.val, hs], h2, fun w _ => ?_⟩
            have hu := (Good.und hX ht).2
            have hun : (underlying S).run X.P w = .ok (.array len e) w := by simp [underlying, show X.P.underlying S = _ from hu]
            have hsz := (Good.und hX hte).size w
            simp only [execOp, ho, hv, hiv]
            refine run_v _ w _ ?_
            simp only [Instr.indexAt, asIntOf, Sem.run_bind, Sem.run_pure, Result.andThen_ok, hun, Instr.sureAddr]
            have c : (0 : Int) ≤ Int.ofNat m ∧ Int.ofNat m < (len : Int) := ⟨Int.natCast_nonneg m, by simp; omega⟩
            rw [if_pos c]
            simp [hsz, Addr.add_mk]
end
end Go.Dw
