/- A layer over the wp of loaded Go code: regions that draw their order. No condition. -/
import Derived.Test.YtdjhgcpmipglfaaDw8
namespace Go.Dw
open Go Go.RowKit

section
variable {P : Program} {ops : Array Oper} {Q : Exit → Act → World → Prop} {md : Region.Mode} {S : World → Prop} {N : Nat → Prop}

/-- Whatever order is picked from here on; S holds behind each operation of which N asks it. -/
def wpAnyG (P : Program) (md : Region.Mode) (ops : Array Oper) (Q : Exit → Act → World → Prop) (S : World → Prop) (N : Nat → Prop) : Nat → Array Bool → Act → World → Prop
  | 0, listed, a, w => Region.ready md ops listed = [] ∧ Q .normal a w
  | fuel + 1, listed, a, w =>
    (Region.ready md ops listed = [] → Q .normal a w) ∧
    ∀ i ∈ Region.ready md ops listed, wpOp P ops Q i (fun a' w' => (N i → S w') ∧ wpAnyG P md ops Q S N fuel (listed.setIfInBounds i true) a' w') a w

theorem wpAny_of_G : ∀ (fuel : Nat) (listed : Array Bool) (a : Act) (w : World), wpAnyG P md ops Q S N fuel listed a w → wpAny P md ops Q fuel listed a w
  | 0, _, _, _, h => h
  | fuel + 1, _, _, _, h => ⟨h.1, fun i hi => wpOp_mono (fun a' w' h' => wpAny_of_G fuel _ a' w' h'.2) (h.2 i hi)⟩

theorem wpAnyG_first {i : Nat} {oi : Oper} {v : Value} (hi : ops[i]? = some oi) (hsel : ∀ (j : Nat) (o : Oper) cs b, ops[j]? = some o → o.op ≠ .select cs b)
    (hQ : ∀ c a w, Q (.panic c) (a.put oi.dst v) w → Q (.panic c) a w)
    (hN : ∀ j oj, ops[j]? = some oj → (∀ e ∈ oj.after, Region.binds md e = true → e.on ≠ i) → N j) :
    ∀ (fuel : Nat) (listed : Array Bool) (a : Act) (w : World),
      (∀ j oj, ops[j]? = some oj → j ≠ i → listed.getD j true = false → (∀ e ∈ oj.after, Region.binds md e = true → e.on ≠ i) → oi.apart ops oj = true) →
      i ∈ Region.ready md ops listed → YieldsIf P ops S oi v a → S w →
      wpAnyG P md ops Q S N fuel (listed.setIfInBounds i true) (a.put oi.dst v) w → wpAnyG P md ops Q S N (fuel + 1) listed a w := by
  intro fuel
  induction fuel with
  | zero =>
    intro listed a w _ hr hy hS H
    refine ⟨fun h => (by rw [h] at hr; cases hr), fun j hj => ?_⟩
    by_cases hji : j = i
    · subst hji; exact hy.wpOp hi hS ⟨fun _ => hS, H⟩
    · have := ready_mono hj hji
      rw [H.1] at this
      cases this
  | succ fuel ih =>
    intro listed a w hfree hr hy hS H
    refine ⟨fun h => (by rw [h] at hr; cases hr), fun j hj => ?_⟩
    by_cases hji : j = i
    · subst hji; exact hy.wpOp hi hS ⟨fun _ => hS, H⟩
    · have h1 := H.2 j (ready_mono hj hji)
      obtain ⟨hjun, oj, hoj, hall⟩ := mem_ready.1 hj
      have hnot : ∀ e ∈ oj.after, Region.binds md e = true → e.on ≠ i := fun e he hb heq => by
        have h1 := hall e he hb
        have h0 := (mem_ready.1 hr).1
        rw [heq] at h1
        rcases Nat.lt_or_ge i listed.size with h' | h'
        · simp [h'] at h0 h1; rw [h0] at h1; cases h1
        · simp [Array.getElem?_eq_none h'] at h1
      have hNj := hN j oj hoj hnot
      have h2 := wpOp_putIf hoj (hfree j oj hoj hji hjun hnot) (fun cs b => hsel i oi cs b hi) (fun cs b => hsel j oj cs b hoj) hQ hy h1
      have hfree' : ∀ k ok, ops[k]? = some ok → k ≠ i → (listed.setIfInBounds j true).getD k true = false →
          (∀ e ∈ ok.after, Region.binds md e = true → e.on ≠ i) → oi.apart ops ok = true := fun k ok hk hki hun hno => by
        refine hfree k ok hk hki ?_ hno
        by_cases hjk : j = k
        · subst hjk; exact hjun
        · rw [getD_set_ne true hjk] at hun; exact hun
      refine wpOp_mono (fun a' w' h3 => ⟨h3.2.1, ih (listed.setIfInBounds j true) a' w' hfree' (ready_mono hr (Ne.symm hji)) h3.1 (h3.2.1 hNj) ?_⟩) h2
      rw [Array.setIfInBounds_comm _ _ hji]
      exact h3.2.2

theorem wpAnyG_done {listed : Array Bool} {a : Act} {w : World} (hr : Region.ready md ops listed = []) (h : Q .normal a w) :
    ∀ fuel, wpAnyG P md ops Q S N fuel listed a w
  | 0 => ⟨hr, h⟩
  | _ + 1 => ⟨fun _ => h, by rw [hr]; simp⟩
end

/-- An order: take number i (it only reads) · number i is the one that may come up · i or j may come up. -/
inductive DT where
  | done
  | take (i : Nat) (k : DT)
  | run (i : Nat) (k : DT)
  | two (i : Nat) (k : DT) (j : Nat) (k' : DT)
def DT.takes : DT → List Nat
  | .done => []
  | .take i k => i :: k.takes
  | .run _ k => k.takes
  | .two _ k _ k' => k.takes ++ k'.takes
def DT.steps : DT → Nat
  | .done => 0
  | .take _ k => k.steps + 1
  | .run _ k => k.steps + 1
  | .two _ k _ k' => Nat.max k.steps k'.steps + 1
def DT.ok (ops : Array Oper) : DT → Array Bool → Bool
  | .done, l => (Region.ready .any ops l).isEmpty
  | .take i k, l => (Region.ready .any ops l).contains i && Region.free .any ops l i && k.ok ops (l.setIfInBounds i true)
  | .run i k, l => decide (Region.ready .any ops l = [i]) && k.ok ops (l.setIfInBounds i true)
  | .two i k j k', l => decide (Region.ready .any ops l = [i, j]) && k.ok ops (l.setIfInBounds i true) && k'.ok ops (l.setIfInBounds j true)
def DT.fine (ops : List Oper) (d : DT) : Bool := Region.noSelect ops.toArray && Nat.ble d.steps ops.length && d.ok ops.toArray (Array.replicate ops.length false)
/-- Does operation j not wait, by an edge of its own, for each that is taken? -/
def needS (ops : List Oper) (takes : List Nat) (j : Nat) : Bool := takes.any fun i => match lget ops j with | some o => !(o.after.toList.any fun e => Region.binds .any e && Nat.beq e.on i) | none => false
/-- s' still holds the chunks of s (those of s that are blank aside) -/
def subL : List Ch → List Ch → Prop
  | [], _ => True
  | _ :: _, [] => False
  | c :: r, d :: r' => (c = d ∨ c = .hp Hp.emp) ∧ subL r r'
theorem subL_spec : ∀ {s s' : List Ch}, subL s s' → ∀ i c, sget s i = some c → sget s' i = some c ∨ c = .hp Hp.emp
  | [], _, _, i, c, h => by cases h
  | c :: r, d :: r', h, i, c', hi => by
    obtain ⟨h1, h2⟩ := h
    cases i with
    | zero =>
      simp only [sget, Option.some.injEq] at hi
      subst hi
      rcases h1 with rfl | rfl
      · exact .inl rfl
      · exact .inr rfl
    | succ j => exact subL_spec h2 j c' hi
theorem subL_refl : ∀ s, subL s s
  | [] => trivial
  | _ :: r => ⟨.inl rfl, subL_refl r⟩
theorem subL_app : ∀ s cs, subL s (s ++ cs)
  | [], _ => trivial
  | _ :: r, cs => ⟨.inl rfl, subL_app r cs⟩
theorem subL_blank : ∀ (s : List Ch) (i : Nat), subL (sset s i (.hp Hp.emp)) s
  | [], _ => trivial
  | _ :: r, 0 => ⟨.inr rfl, subL_refl r⟩
  | _ :: r, i + 1 => ⟨.inl rfl, subL_blank r i⟩

def needR (ops : List Oper) (takes : List Nat) (i : Nat) (k : DT) : Bool := match needS ops takes i with | true => true | false => (match k.takes with | [] => false | _ => true)
def wrun (X : Ctx) (ops : List Oper) (i : Nat) (need : Bool) (s0 : List Ch) (cont : Tm → List Ch → Prop) (t : Tm) (s : List Ch) : Prop := match lget ops i with
  | some o => wguard ops o t
      (fun t => wop X s t o fun tv s' => putk X.n t o.dst tv fun t' => match need with | true => subL s0 s' ∧ cont t' s' | false => cont t' s')
      (fun t => putk X.n t o.dst (.v undef) fun t' => match need with | true => subL s0 s ∧ cont t' s | false => cont t' s)
  | none => False
def wdraw (X : Ctx) (ops : List Oper) (takes : List Nat) (s0 : List Ch) : DT → (Tm → List Ch → Prop) → Tm → List Ch → Prop
  | .done, Q, t, s => Q t s
  | .take i k, Q, t, s => match lget ops i with
    | some o => match isQ o.op with
      | true => wguard ops o t
        (fun t => wq X s0 t o.op fun tv => putk X.n t o.dst tv fun t' => wdraw X ops takes s0 k Q t' s)
        (fun t => putk X.n t o.dst (.v undef) fun t' => wdraw X ops takes s0 k Q t' s)
      | false => False
    | none => False
  | .run i k, Q, t, s => wrun X ops i (needR ops takes i k) s0 (fun t s => wdraw X ops takes s0 k Q t s) t s
  | .two i k j k', Q, t, s => wrun X ops i (needR ops takes i k) s0 (fun t s => wdraw X ops takes s0 k Q t s) t s ∧ wrun X ops j (needR ops takes j k') s0 (fun t s => wdraw X ops takes s0 k' Q t s) t s

section
variable {X : Ctx} {n : Nat} {t : Tm} {s : List Ch} {a : Act}

theorem wguard_sound {all : List Oper} {o : Oper} {yes no : Tm → Prop} (hf : Fr n t s a) (h : wguard all o t yes no) :
    (Region.wanted o (yielded all.toArray a.tmps) = true ∧ ∃ t', Fr n t' s a ∧ yes t') ∨ (Region.wanted o (yielded all.toArray a.tmps) = false ∧ ∃ t', Fr n t' s a ∧ no t') := by
  unfold wguard at h
  cases hg : o.guard with
  | none => simp only [hg] at h; exact .inl ⟨by simp [Region.wanted, hg], t, hf, h⟩
  | some jw =>
    obtain ⟨j, want⟩ := jw
    simp only [hg] at h
    cases hs : gslot all j with
    | none => simp [hs] at h
    | some d =>
      simp only [hs] at h
      cases ha : aget t d with
      | none => simp [ha] at h
      | some tv =>
        simp only [ha] at h
        cases tv with
        | bx _ _ => exact h.elim
        | bs _ _ => exact h.elim
        | v x =>
          have hun : (∀ b, x ≠ .bool b) → yielded all.toArray a.tmps j = none := by
            intro hx
            obtain ⟨v, h1, h2⟩ := hf.2.2 d _ ha
            simp only [TV.val, Option.some.injEq] at h1
            subst h1
            unfold gslot at hs
            rw [lget_eq] at hs
            unfold yielded
            cases hl : all[j]? with
            | none => simp [hl] at hs
            | some oj =>
              simp only [hl] at hs
              simp only [List.getElem?_toArray, hl, Option.bind_some, hs, h2]
              cases x <;> first | rfl | exact absurd rfl (hx _)
          cases x <;> try exact h.elim
          case tuple => exact .inr ⟨by simp [Region.wanted, hg, hun (fun b e => by cases e)], t, hf, h⟩
          rename_i b
          have hy : yielded all.toArray a.tmps j = some b := by
            obtain ⟨v, h1, h2⟩ := hf.2.2 d _ ha
            simp only [TV.val, Option.some.injEq] at h1
            subst h1
            unfold gslot at hs
            rw [lget_eq] at hs
            unfold yielded
            cases hl : all[j]? with
            | none => simp [hl] at hs
            | some oj =>
              simp only [hl] at hs
              simp [hl, hs, h2]
          have hw : Region.wanted o (yielded all.toArray a.tmps) = (b == want) := by simp [Region.wanted, hg, hy]
          rw [hw]
          cases b <;> cases want <;> simp only [ifb] at h
          · exact .inl ⟨rfl, _, hf.know ha rfl, h⟩
          · exact .inr ⟨rfl, _, hf.know ha rfl, h⟩
          · exact .inr ⟨rfl, _, hf.know ha rfl, h⟩
          · exact .inl ⟨rfl, _, hf.know ha rfl, h⟩

theorem wop_ok (hX : X.Good) (hf : Fr n t s a) {o : Oper} {q : TV → List Ch → Prop} (h : wop X s t o q) : EOk X.P s o a q := by
  unfold wop at h
  cases hq : isQ o.op with
  | true => simp only [hq] at h; exact EOk.of_q (wq_ok hX hf.w hq h)
  | false => simp only [hq] at h; exact we_ok hX hf.w h

theorem wops_ok (hX : X.Good) {all : List Oper} {w0 : World} {Q : Exit → Act → World → Prop} {q : Tm → List Ch → Prop} (hQ : ∀ t s a w, Fr X.n t s a → Ok w0 s w → q t s → Q .normal a w) :
    ∀ (ops : List Oper) (t : Tm) (s : List Ch) (a : Act) (w : World), wops X all ops q t s → Fr X.n t s a → Ok w0 s w → wpList X.P all.toArray Q ops a w
  | [], t, s, a, w, h, hf, hok => wpList_nil (hQ t s a w hf hok h)
  | o :: r, t, s, a, w, h, hf, hok => by
    refine wpList_step fun K hK => ?_
    rcases wguard_sound hf h with ⟨hw, t', hf', hy⟩ | ⟨hw, t', hf', hn⟩
    · rw [if_pos hw]
      refine wop_ok hX hf' hy w0 w hok K Q fun tv v s' w' hok' hk hv hp => ?_
      obtain ⟨t'', h1, h2⟩ := (hf'.keep hk).putk hv hp
      exact hK _ _ (wops_ok hX hQ r t'' s' _ w' h1 h2 hok')
    · rw [if_neg (by rw [hw]; simp)]
      obtain ⟨t'', h1, h2⟩ := hf'.putk (tv := .v undef) rfl hn
      exact hK _ _ (wops_ok hX hQ r t'' s _ w h1 h2 hok)

theorem wdraw_ok (hX : X.Good) {ops : List Oper} {takes : List Nat} {w0 : World} {Q : Exit → Act → World → Prop} {q : Tm → List Ch → Prop} {s0 : List Ch}
    (hQ : ∀ t s a w, Fr X.n t s a → Ok w0 s w → q t s → Q .normal a w) (hP : ∀ c a w, ¬ Q (.panic c) a w) (hsel : Region.noSelect ops.toArray = true) :
    ∀ (d : DT) (fuel : Nat) (listed : Array Bool) (t : Tm) (s : List Ch) (a : Act) (w : World), d.steps ≤ fuel → d.ok ops.toArray listed = true → (∀ i ∈ d.takes, i ∈ takes) →
      wdraw X ops takes s0 d q t s → Fr X.n t s a → Ok w0 s w → (d.takes ≠ [] → subL s0 s) →
      wpAnyG X.P .any ops.toArray Q (Mem s0) (fun j => needS ops takes j = true) fuel listed a w := by
  have hP' : ∀ (oi : Oper) (v : Value) c a w, Q (.panic c) (a.put oi.dst v) w → Q (.panic c) a w := fun _ _ c _ w h => absurd h (hP c _ w)
  have subval : ∀ {s s' : List Ch}, subL s s' → ∀ tv v, TV.val s tv = some v → TV.val s' tv = some v := by
    intro s s' hs tv v hv
    cases tv with
    | v x => exact hv
    | bx i off =>
      obtain ⟨b, cs, T, h1, h2⟩ := tv_bx hv
      simp [TV.val, (subL_spec hs i _ h1).resolve_right (fun e => by cases e), h2]
    | bs i n =>
      obtain ⟨b, cs, T, h1, h2⟩ := tv_bs hv
      simp [TV.val, (subL_spec hs i _ h1).resolve_right (fun e => by cases e), h2]
  have sub_mem : ∀ {s : List Ch} {w : World}, subL s0 s → Ok w0 s w → Mem s0 w := fun hs hok i c e => by
    rcases subL_spec hs i c e with h | rfl
    · exact hok.mem i c h
    · exact Hp.emp_in _
  have runc : ∀ (i : Nat) (k : DT) (fuel : Nat) (listed : Array Bool) (t : Tm) (s : List Ch) (a : Act) (w : World),
      (∀ (t : Tm) (s : List Ch) (a : Act) (w : World), wdraw X ops takes s0 k q t s → Fr X.n t s a → Ok w0 s w → (k.takes ≠ [] → subL s0 s) →
        wpAnyG X.P .any ops.toArray Q (Mem s0) (fun j => needS ops takes j = true) fuel (listed.setIfInBounds i true) a w) →
      wrun X ops i (needR ops takes i k) s0 (fun t s => wdraw X ops takes s0 k q t s) t s → Fr X.n t s a → Ok w0 s w →
      wpOp X.P ops.toArray Q i (fun a' w' => (needS ops takes i = true → Mem s0 w') ∧ wpAnyG X.P .any ops.toArray Q (Mem s0) (fun j => needS ops takes j = true) fuel (listed.setIfInBounds i true) a' w') a w := by
    intro i k fuel listed t s a w ih h hf hok
    unfold wrun at h
    rw [lget_eq] at h
    cases ho : ops[i]? with
    | none => simp [ho] at h
    | some o =>
      simp only [ho] at h
      have fin : ∀ {t' : Tm} {s' : List Ch} {a' : Act} {w' : World}, (match needR ops takes i k with | true => subL s0 s' ∧ wdraw X ops takes s0 k q t' s' | false => wdraw X ops takes s0 k q t' s') →
          Fr X.n t' s' a' → Ok w0 s' w' → (needS ops takes i = true → Mem s0 w') ∧ wpAnyG X.P .any ops.toArray Q (Mem s0) (fun j => needS ops takes j = true) fuel (listed.setIfInBounds i true) a' w' := by
        intro t' s' a' w' hm hf' hok'
        cases hn : needR ops takes i k with
        | true =>
          simp only [hn] at hm
          exact ⟨fun _ => sub_mem hm.1 hok', ih t' s' a' w' hm.2 hf' hok' fun _ => hm.1⟩
        | false =>
          simp only [hn] at hm
          unfold needR at hn
          cases hs : needS ops takes i with
          | true => simp [hs] at hn
          | false =>
            simp only [hs] at hn
            refine ⟨(fun h => by cases h), ih t' s' a' w' hm hf' hok' fun hk => ?_⟩
            cases hkk : k.takes with
            | nil => exact absurd hkk hk
            | cons x xs => simp [hkk] at hn
      unfold wpOp
      have ho' : ops.toArray[i]? = some o := by simpa using ho
      simp only [ho']
      rcases wguard_sound hf h with ⟨hw, t', hf', hy⟩ | ⟨hw, t', hf', hn⟩
      · rw [if_pos hw]
        refine .inl (wop_ok hX hf' hy w0 w hok _ Q fun tv v s' w' hok' hk hv hp => ?_)
        obtain ⟨t'', h1, h2⟩ := (hf'.keep hk).putk hv hp
        exact fin h1 h2 hok'
      · rw [if_neg (by rw [hw]; simp)]
        obtain ⟨t'', h1, h2⟩ := hf'.putk (tv := .v undef) rfl hn
        exact fin h1 h2 hok
  intro d
  induction d with
  | done =>
    intro fuel listed t s a w _ hok _ h hf hw _
    exact wpAnyG_done (by simpa [DT.ok] using hok) (hQ t s a w hf hw h) fuel
  | take i k ih =>
    intro fuel listed t s a w hst hok htk h hf hw hsub
    have hs0 : subL s0 s := hsub (by simp [DT.takes])
    cases fuel with
    | zero => simp [DT.steps] at hst
    | succ fuel =>
      simp only [DT.ok, Bool.and_eq_true] at hok
      obtain ⟨⟨hr, hfree⟩, hk⟩ := hok
      simp only [wdraw] at h
      rw [lget_eq] at h
      cases ho : ops[i]? with
      | none => simp [ho] at h
      | some o =>
        simp only [ho] at h
        have ho' : ops.toArray[i]? = some o := by simpa using ho
        cases hq : isQ o.op with
        | false => simp [hq] at h
        | true =>
          simp only [hq] at h
          have main : ∀ (v : Value) (t'' : Tm), YieldsIf X.P ops.toArray (Mem s0) o v a → Fr X.n t'' s (a.put o.dst v) → wdraw X ops takes s0 k q t'' s →
              wpAnyG X.P .any ops.toArray Q (Mem s0) (fun j => needS ops takes j = true) (fuel + 1) listed a w := by
            intro v t'' hy hf'' hd
            refine wpAnyG_first ho' (Region.noSelect_spec hsel) (hP' o v) (fun j oj hj hno => ?_) fuel listed a w (Region.free_spec ho' hfree) (by simpa using hr) hy (sub_mem hs0 hw)
              (ih fuel _ t'' s _ w (by simp [DT.steps] at hst; omega) hk (fun j hj => htk j (by simp [DT.takes, hj])) hd hf'' hw fun _ => hs0)
            unfold needS
            refine List.any_eq_true.2 ⟨i, htk i (by simp [DT.takes]), ?_⟩
            rw [lget_eq]
            have hj' : ops[j]? = some oj := by simpa using hj
            simp only [hj', Bool.not_eq_true', List.any_eq_false, Bool.and_eq_true, not_and]
            intro e he hb heq
            exact hno e (Array.mem_toList_iff.1 he) hb (Nat.eq_of_beq_eq_true heq)
          rcases wguard_sound hf h with ⟨hwt, t', hf', hy⟩ | ⟨hwt, t', hf', hn⟩
          · have hfw : Frw t' s0 a := fun j tv v h1 h2 => hf'.w j tv v h1 (subval hs0 tv v h2)
            obtain ⟨tv, v, h1, h2, h3⟩ := wq_ok hX hfw hq hy
            obtain ⟨t'', h4, h5⟩ := hf'.putk (subval hs0 tv v h1) h2
            exact main v t'' (.inl ⟨hwt, h3⟩) h5 h4
          · obtain ⟨t'', h4, h5⟩ := hf'.putk (tv := .v undef) rfl hn
            exact main undef t'' (.inr ⟨hwt, rfl⟩) h5 h4
  | run i k ih =>
    intro fuel listed t s a w hst hok htk h hf hw hsub
    cases fuel with
    | zero => simp [DT.steps] at hst
    | succ fuel =>
      simp only [DT.ok, Bool.and_eq_true, decide_eq_true_eq] at hok
      refine ⟨(fun h0 => by rw [hok.1] at h0; cases h0), fun i' hi' => ?_⟩
      rw [hok.1] at hi'
      have : i' = i := by simpa using hi'
      subst this
      exact runc i' k fuel listed t s a w (fun t s a w h hf hw hs => ih fuel _ t s a w (by simp [DT.steps] at hst; omega) hok.2 (fun j hj => htk j (by simpa [DT.takes] using hj)) h hf hw hs) h hf hw
  | two i k j k' ih ih' =>
    intro fuel listed t s a w hst hok htk h hf hw hsub
    cases fuel with
    | zero => simp [DT.steps] at hst
    | succ fuel =>
      simp only [DT.ok, Bool.and_eq_true, decide_eq_true_eq] at hok
      simp only [DT.steps] at hst
      have hm := Nat.le_max_left k.steps k'.steps
      have hm' := Nat.le_max_right k.steps k'.steps
      refine ⟨(fun h0 => by rw [hok.1.1] at h0; cases h0), fun i' hi' => ?_⟩
      rw [hok.1.1] at hi'
      rcases (by simpa using hi' : i' = i ∨ i' = j) with rfl | rfl
      · exact runc i' k fuel listed t s a w (fun t s a w h hf hw hs => ih fuel _ t s a w (Nat.le_trans hm (Nat.le_of_succ_le_succ hst)) hok.1.2 (fun j hj => htk j (by simp [DT.takes, hj])) h hf hw hs) h.1 hf hw
      · exact runc i' k' fuel listed t s a w (fun t s a w h hf hw hs => ih' fuel _ t s a w (Nat.le_trans hm' (Nat.le_of_succ_le_succ hst)) hok.2 (fun j hj => htk j (by simp [DT.takes, hj])) h hf hw hs) h.2 hf hw

/-- The way through a region that draws: an order (checked by computation), and what is to be shown along it. -/
theorem NeedD.by_order0 {X : Ctx} (hX : X.Good) {ops : List Oper} {Q : Tm → List Ch → Prop} {t : Tm} {s s0 : List Ch} (d : DT) (hd : d.fine ops = true) (hs : subL s0 s) (h : wdraw X ops d.takes s0 d Q t s) : NeedD X ops Q t s := by
  refine ⟨fun w0 w a Q' hok hf hQ hP => ?_⟩
  unfold DT.fine at hd
  simp only [Bool.and_eq_true] at hd
  obtain ⟨⟨h1, h2⟩, h3⟩ := hd
  have hlen : ops.toArray.size = ops.length := by simp
  rw [hlen]
  exact wpAny_of_G _ _ _ _ (wdraw_ok hX (fun t s a w hf hok hq => hQ t s a w hok hf hq) hP h1 d ops.length _ t s a _ (Nat.le_of_ble_eq_true h2) h3 (fun i hi => hi) h hf hok.drew fun _ => hs)
theorem NeedD.by_order {X : Ctx} (hX : X.Good) {ops : List Oper} {Q : Tm → List Ch → Prop} {t : Tm} {s : List Ch} (d : DT) (hd : d.fine ops = true) (h : wdraw X ops d.takes s d Q t s) : NeedD X ops Q t s :=
  NeedD.by_order0 hX d hd (subL_refl s) h
end
end Go.Dw
