/- A layer over the wp of loaded Go code: operations that write are sound, and so are regions in their text's order. No condition. -/
import Derived.Test.YtdjhgcpmipglfaaDw7
namespace Go.Dw
open Go Go.RowKit

/-- what an operation that writes comes to -/
def EOk (P : Program) (s : List Ch) (o : Oper) (a : Act) (q : TV → List Ch → Prop) : Prop :=
  ∀ w0 w, Ok w0 s w → ∀ (K : Act → World → Prop) (Q : Exit → Act → World → Prop),
    (∀ tv v s' w', Ok w0 s' w' → Keep s s' → tv.val s' = some v → q tv s' → K (a.put o.dst v) w') → o.wp P a w K Q

theorem EOk.of_q {P : Program} {s : List Ch} {o : Oper} {a : Act} {q : TV → List Ch → Prop} (h : QOk P s (execOp a.eval o) fun tv => q tv s) : EOk P s o a q := by
  obtain ⟨tv, v, h1, h2, h3⟩ := h
  intro w0 w hok K Q hK
  unfold Oper.wp
  rw [h3 w hok.mem]
  exact hK tv v s w hok (Keep.refl s) h1 h2

theorem run_v' {P : Program} {e : Sem Value} {w w' : World} {v : Value} (h : e.run P w = .ok v w') : (do pure (Next.value (← e)) : Sem Next).run P w = .ok (.value v) w' := by simp [h]

theorem NeedE.ok {P : Program} {s : List Ch} {o : Oper} {a : Act} {e : Sem Value} {q : TV → List Ch → Prop} (h : NeedE P s e q)
    (he : ∀ w, (execOp a.eval o).run P w = (do pure (Next.value (← e)) : Sem Next).run P w) : EOk P s o a q := by
  obtain ⟨h⟩ := h
  intro w0 w hok K Q hK
  obtain ⟨tv, v, w', s', h1, h2, h3, h4, h5⟩ := h w0 w hok
  unfold Oper.wp
  rw [he, run_v' h1]
  exact hK tv v s' w' h2 h3 h4 h5

theorem NeedU.ok {P : Program} {s : List Ch} {o : Oper} {a : Act} {e : Sem Unit} {q : TV → List Ch → Prop} (h : NeedU P s e fun s' => q (.v undef) s')
    (he : ∀ w, (execOp a.eval o).run P w = (do e; pure Next.skip : Sem Next).run P w) : EOk P s o a q := by
  obtain ⟨h⟩ := h
  intro w0 w hok K Q hK
  obtain ⟨w', s', h1, h2, h3, h4⟩ := h w0 w hok
  unfold Oper.wp
  have : (do e; pure Next.skip : Sem Next).run P w = .ok .skip w' := by simp [h1]
  rw [he, this]
  exact hK (.v undef) undef s' w' h2 h3 rfl h4

/-- a new variable of written cells -/
theorem new_ok {P : Program} {s : List Ch} {o : Oper} {a : Act} {T : Nat} {cs : List Value} {q : TV → List Ch → Prop} {off' : Nat → Value} (off : TV) (hoff : ∀ b, off.val (s ++ [.box b cs T]) = some (off' b))
    (h : ∀ b, q off (s ++ [.box b cs T])) (he : ∀ w, (execOp a.eval o).run P w = .ok (.value (off' w.heap.size)) (w.alloc (.cells cs.toArray T))) : EOk P s o a q := by
  intro w0 w hok K Q hK
  unfold Oper.wp
  rw [he]
  exact hK off _ _ _ (hok.alloc (.box w.heap.size cs T) (.cells cs.toArray T) rfl) (Keep.app s _) (hoff _) (h _)

theorem sget_last (s : List Ch) (c : Ch) : sget (s ++ [c]) s.length = some c := by rw [sget_eq]; simp

theorem allOne_sound : ∀ {l : List Value}, allOne l = true → ∀ v ∈ l, v.oneCell' = true
  | [], _, v, h => by cases h
  | x :: r, h, v, hv => by
    simp only [allOne] at h
    cases hx : x.oneCell' with
    | false => simp [hx] at h
    | true =>
      simp only [hx] at h
      rcases List.mem_cons.1 hv with rfl | hv
      · exact hx
      · exact allOne_sound h v hv

theorem repL_eq (z : List Value) : ∀ n, (Array.range (n * z.length)).map (fun i => z.toArray[i % z.length]!) = (repL n z).toArray := by
  intro n
  apply Array.ext'
  simp only [Array.toList_map, Array.toList_range]
  induction n with
  | zero => simp [repL]
  | succ n ih =>
    rw [Nat.succ_mul, Nat.add_comm, List.range_add, List.map_append, List.map_map]
    simp only [repL]
    congr 1
    · apply List.ext_getElem?
      intro j
      by_cases hj : j < z.length
      · simp [hj, Nat.mod_eq_of_lt hj]
      · simp [hj]
    · rw [← ih]
      apply List.map_congr_left
      intro j _
      simp

section
variable {X : Ctx} {t : Tm} {s : List Ch} {a : Act}

theorem we_store (hX : X.Good) (hf : Frw t s a) {o : Oper} {T : Nat} {x y : Operand} (ho : o.op = .store T x y) {q : TV → List Ch → Prop} (h : we X s t o.type (.store T x y) q) : EOk X.P s o a q := by
  obtain ⟨tv, h1, h2⟩ := hf.tvk h
  have h3 := hf.val h2
  cases tv with
  | bs _ _ => exact h3.elim
  | v p =>
    simp only [TV.val, Option.some.injEq] at h1
    subst h1
    exact NeedU.ok h3 fun w => by simp only [execOp, ho]
  | bx i off =>
    obtain ⟨b, cs, T', hs, hv⟩ := tv_bx h1
    simp only [hs] at h3
    have h4 := cellsOf_sound h3
    cases h5 : allOne (a.eval y).cells.toList with
    | false => simp [h5] at h4
    | true =>
      simp only [h5] at h4
      cases ht : tget X.tt T with
      | none => simp [ht] at h4
      | some ti =>
        simp only [ht] at h4
        cases hb : Nat.beq (lenL (a.eval y).cells.toList) ti.size with
        | false => simp [hb] at h4
        | true =>
          simp only [hb] at h4
          cases hp : putL cs off (a.eval y).cells.toList with
          | none => simp [hp] at h4
          | some cs' =>
            simp only [hp] at h4
            rw [forceL_eq] at h4
            obtain ⟨h6, h7⟩ := putL_eq _ _ _ _ hp
            have hsz : (a.eval y).cells.size = ti.size := by have := Nat.eq_of_beq_eq_true hb; rw [lenL_eq] at this; simpa using this
            intro w0 w hok K Q hK
            have hblk : w.heap[b]? = some (.cells cs.toArray T' (0, 0)) := hok.mem i _ hs b _ (Hp.one_self _ _)
            have hst := run_storeCells_at X.P b off T' (a.eval y).cells.toList 0 cs.toArray w hblk (by simpa using h6) (allOne_sound h5)
            simp only [Nat.add_zero] at hst
            rw [← h7] at hst
            have hrun : (execOp a.eval o).run X.P w = .ok .skip (w.setRow b cs'.toArray) := by
              simp only [execOp, ho, hv, Instr.storeAt, Instr.sureAddr, Sem.run_bind, Sem.run_pure, Result.andThen_ok, storeVar, (Good.und hX ht).size, hsz]
              simp [hst]
            unfold Oper.wp
            rw [hrun]
            refine hK (.v undef) undef _ _ (hok.upd hs (.box b cs' T') rfl rfl rfl (by simp [World.setRow]) (Nat.le_refl _) (fun k _ hk => ?_) ?_ (fun k hk => ?_)) (Keep.set hs (fun b' cs'' T'' e => by cases e; exact ⟨_, _, rfl⟩)) rfl h4
            · refine setRow_other w b k _ (fun e => ?_)
              subst e; simp [Ch.h, Hp.one] at hk
            · intro k o' hk
              simp only [Ch.h, Hp.one] at hk
              split at hk
              · rename_i e; subst e; cases hk
                exact setRow_heap w k _ _ _ _ hblk
              · cases hk
            · left
              simp only [Ch.h, Hp.one] at hk ⊢
              split at hk <;> simp_all

theorem we_ok (hX : X.Good) (hf : Frw t s a) {o : Oper} {q : TV → List Ch → Prop} (h : we X s t o.type o.op q) : EOk X.P s o a q := by
  cases ho : o.op <;> rw [ho] at h <;> try exact h.elim
  case alloc T =>
    simp only [we] at h
    cases ht : tget X.tt T with
    | none => simp [ht] at h
    | some ti =>
      simp only [ht] at h
      refine new_ok (off' := fun b => .pointer (some ⟨b, 0, none⟩)) (.bx s.length 0) (fun b => by simp [TV.val, sget_last]) h fun w => ?_
      obtain ⟨z, hz, hzc⟩ := (Good.und hX ht).zero w
      simp [execOp, ho, Instr.alloc, hz, newVar, newRow, hzc]
  case box T x =>
    have h1 := cellsOf_sound (hf.val h)
    refine new_ok (off' := fun b => .pointer (some ⟨b, 0, none⟩)) (.bx s.length 0) (fun b => by simp [TV.val, sget_last]) h1 fun w => ?_
    simp [execOp, ho, Instr.box, newVar, newRow]
  case store T x y => exact we_store hX hf ho h
  case buildSlice T m parts =>
    obtain ⟨parts⟩ := parts
    simp only [we] at h
    cases ht : tget X.tt T with
    | none => simp [ht] at h
    | some ti =>
      obtain ⟨k, sz, by', z⟩ := ti
      cases k <;> simp only [ht] at h <;> try exact h.elim
      rename_i e
      cases hte : tget X.tt e with
      | none => simp [hte] at h
      | some te =>
        simp only [hte] at h
        cases hb : Nat.ble (m * te.size) 16777216 with
        | false => simp [hb] at h
        | true =>
          simp only [hb] at h
          obtain ⟨cs, hq, hfill⟩ := wbuild_ok hf h
          refine new_ok (off' := fun b => .slice (some ⟨b, 0, none⟩) m m) (.bs s.length m) (fun b => by simp [TV.val, sget_last]) hq fun w => ?_
          have hu : (underlying T).run X.P w = .ok (.slice e) w := by simp [underlying, show X.P.underlying T = _ from (Good.und hX ht).2]
          have hs := (Good.und hX hte).size w
          obtain ⟨zz, hz, hzc⟩ := (Good.und hX hte).zero w
          have hle : ¬ m * te.size > 16777216 := by have := Nat.le_of_ble_eq_true hb; omega
          have hzl := (Good.und hX hte).zlen
          have hzs : zz.cells.size = te.size := by rw [hzc]; simpa using hzl
          have hrep := repL_eq te.zero m
          rw [hzl] at hrep
          by_cases h0 : m * te.size = 0
          · have r0 : Array.range 0 = #[] := rfl
            rw [h0, r0] at hrep
            have h0' : (#[] : Array Value) = (repL m te.zero).toArray := by simpa using hrep
            simp only [execOp, ho, Instr.buildSlice, Sem.run_bind, hu, Result.andThen_ok, hs, h0, if_true, Sem.run_pure]
            have hf' := hfill
            rw [← h0'] at hf'
            simp [hf', newRow, r0]
          · simp only [execOp, ho, Instr.buildSlice, Sem.run_bind, hu, Result.andThen_ok, hs, hle, if_false, h0, hz, Sem.run_pure, hzc, List.size_toArray, hzl, hrep]
            simp [hfill, newRow]
  case makeSlice T l c =>
    exact NeedE.ok (hf.val (hf.val h)) fun w => by simp only [execOp, ho]
  case call c =>
    obtain ⟨callee, ⟨args⟩, tys⟩ := c
    cases callee with
    | invoke r m => simp [we] at h
    | value f =>
      simp only [we] at h
      obtain ⟨tv, h1, h2⟩ := hf.tvk h
      have h3 := hf.vals h2
      cases tv with
      | bx _ _ => exact h3.elim
      | bs _ _ => exact h3.elim
      | v fv =>
        simp only [TV.val, Option.some.injEq] at h1
        cases fv <;> try exact h3.elim
        rename_i fn first cap
        cases fn <;> try exact h3.elim
        rename_i g
        obtain ⟨first⟩ := first
        obtain ⟨cap⟩ := cap
        simp only [forceL_eq] at h3
        obtain ⟨h4⟩ := h3
        intro w0 w hok K Q hK
        obtain ⟨h5, h6⟩ := h4 w0 w hok
        have hrun : (execOp a.eval o).run X.P w = .ok (.enter g (first ++ args.map a.eval ++ cap).toArray) w := by
          have e : (execOp a.eval o).run X.P w = (callFunc g (first ++ args.map a.eval ++ cap).toArray).run X.P w := by
            simp [execOp, ho, resolve, Deferred.ofValue, invoke, ← h1]
          rw [e, h5]
        unfold Oper.wp
        rw [hrun]
        refine h6.mono fun e w' he => ?_
        obtain ⟨v, s', rfl, h7, h8, h9⟩ := he
        exact hK (.v v) v s' w' h7 h8 rfl h9
    | builtin b =>
      by_cases hb : b = .append
      · subst hb
        match args, h with
        | [], h => exact (hf.vals h).elim
        | [_], h => exact (hf.vals h).elim
        | _ :: _ :: _ :: _, h => exact (hf.vals h).elim
        | [x, y], h =>
          obtain ⟨tv, h1, h2⟩ := hf.tvk (hf.val h)
          obtain ⟨yv, h3, h4⟩ := h2
          rw [h1] at h3; cases h3
          exact NeedE.ok h4 fun w => by simp [execOp, ho, resolve, invoke, builtin]
      · have h' : vals s t args fun args => match b with
            | .copy => NeedE X.P s (Builtin.copy_ tys o.type args.toArray) q
            | .min => NeedE X.P s (Builtin.min_ tys o.type args.toArray) q
            | .max => NeedE X.P s (Builtin.max_ tys o.type args.toArray) q
            | .clear => NeedE X.P s (Builtin.clear_ tys o.type args.toArray) q
            | .cap => NeedE X.P s (Builtin.cap_ tys o.type args.toArray) q
            | _ => False := by
          cases b <;> first | exact absurd rfl hb | exact h
        have h1 := hf.vals h'
        cases b <;> try exact h1.elim
        all_goals exact NeedE.ok h1 fun w => by simp [execOp, ho, resolve, invoke, builtin]
end
end Go.Dw
