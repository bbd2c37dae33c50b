/- A layer over the wp of loaded Go code: WP is sound. No condition. -/
import Derived.Test.YtdjhgcpmipglfaaDw3
namespace Go.Dw
open Go Go.RowKit

theorem forceL_eq : ∀ (l : List Value) (q : List Value → Prop), forceL l q = q l
  | [], _ => rfl
  | v :: r, q => by simp only [forceL]; rw [forceL_eq r]
theorem lenL_eq : ∀ l, lenL l = l.length
  | [] => rfl
  | _ :: r => by simp [lenL, lenL_eq r]
theorem takeL_eq : ∀ n l, takeL n l = l.take n
  | 0, _ => by simp [takeL]
  | _ + 1, [] => by simp [takeL]
  | n + 1, _ :: r => by simp [takeL, takeL_eq n r]
theorem dropL_eq : ∀ n l, dropL n l = l.drop n
  | 0, _ => by simp [dropL]
  | _ + 1, [] => by simp [dropL]
  | n + 1, _ :: r => by simp [dropL, dropL_eq n r]
theorem putL_eq : ∀ (l : List Value) (n : Nat) (vs l' : List Value), putL l n vs = some l' → n + vs.length ≤ l.length ∧ l' = l.take n ++ vs ++ l.drop (n + vs.length)
  | l, 0, [], l', h => by
    have : l = l' := by cases l <;> simpa [putL] using h
    subst this; simp
  | [], 0, _ :: _, _, h => by simp [putL] at h
  | [], _ + 1, [], _, h => by simp [putL] at h
  | [], _ + 1, _ :: _, _, h => by simp [putL] at h
  | c :: r, 0, v :: vs, l', h => by
    cases hp : putL r 0 vs with
    | none => simp [putL, hp] at h
    | some x =>
      simp [putL, hp] at h; subst h
      have := putL_eq r 0 vs x hp
      obtain ⟨h1, h2⟩ := this
      subst h2
      simp at h1 ⊢
      omega
  | c :: r, n + 1, vs, l', h => by
    cases hp : putL r n vs with
    | none => simp [putL, hp] at h
    | some x =>
      simp [putL, hp] at h; subst h
      obtain ⟨h1, h2⟩ := putL_eq r n vs x hp
      subst h2
      refine ⟨by simp; omega, ?_⟩
      rw [show n + 1 + vs.length = (n + vs.length) + 1 by omega]
      simp

theorem TV.valk {s : List Ch} {tv : TV} {q : Value → Prop} (h : Dw.valk s tv q) : ∃ v, tv.val s = some v ∧ q v := by
  unfold Dw.valk at h
  cases tv with
  | v x => exact ⟨x, rfl, h⟩
  | bx i off =>
    simp only [TV.val]
    cases hs : sget s i with
    | none => simp [hs] at h
    | some c => cases c <;> simp [hs] at h ⊢; exact h
  | bs i n =>
    simp only [TV.val]
    cases hs : sget s i with
    | none => simp [hs] at h
    | some c => cases c <;> simp [hs] at h ⊢; exact h

section
variable {n : Nat} {t : Tm} {s : List Ch} {a : Act}

/-- what the slots hold, as far as it has a meaning in s -/
def Frw (t : Tm) (s : List Ch) (a : Act) : Prop := ∀ i tv v, aget t i = some tv → tv.val s = some v → a.tmps[i]? = some v
theorem Fr.w (hf : Fr n t s a) : Frw t s a := fun i tv v h1 h2 => by
  obtain ⟨v', h3, h4⟩ := hf.2.2 i tv h1
  rw [h2] at h3; cases h3; exact h4
theorem okv_sound {tv : TV} {p : Prop} (h : okv s tv p) : (∃ v, tv.val s = some v) ∧ p := by
  unfold okv at h
  cases tv with
  | v x => exact ⟨⟨x, rfl⟩, h⟩
  | bx i off =>
    simp only [TV.val]
    cases hs : sget s i with
    | none => simp [hs] at h
    | some c => cases c <;> simp [hs] at h ⊢; exact h
  | bs i n =>
    simp only [TV.val]
    cases hs : sget s i with
    | none => simp [hs] at h
    | some c => cases c <;> simp [hs] at h ⊢; exact h

theorem Frw.tvk (hf : Frw t s a) {x : Operand} {q : TV → Prop} (h : Dw.tvk s t x q) : ∃ tv, tv.val s = some (a.eval x) ∧ q tv := by
  unfold Dw.tvk at h
  cases ho : opv t x with
  | none => simp [ho] at h
  | some tv =>
    simp only [ho] at h
    obtain ⟨⟨v, h1⟩, h2⟩ := okv_sound h
    refine ⟨tv, ?_, h2⟩
    rw [h1]
    cases x with
    | tmp i => have := hf i tv v ho h1; simp [Act.eval, this]
    | const v => simp [opv] at ho; subst ho; simpa [TV.val, Act.eval] using h1.symm
    | global g => simp [opv] at ho; subst ho; simpa [TV.val, Act.eval] using h1.symm
    | func f => simp [opv] at ho; subst ho; simpa [TV.val, Act.eval] using h1.symm

theorem Frw.val (hf : Frw t s a) {x : Operand} {q : Value → Prop} (h : Dw.val s t x q) : q (a.eval x) := by
  obtain ⟨tv, h1, h2⟩ := hf.tvk h
  obtain ⟨v, h3, h4⟩ := TV.valk h2
  rw [h1] at h3
  cases h3
  exact h4

theorem Frw.vals (hf : Frw t s a) : ∀ {xs : List Operand} {q : List Value → Prop}, Dw.vals s t xs q → q (xs.map a.eval)
  | [], _, h => h
  | x :: xs, q, h => Frw.vals hf (xs := xs) (q := fun vs => q (a.eval x :: vs)) (Frw.val hf (x := x) (q := fun v => Dw.vals s t xs fun vs => q (v :: vs)) h)

theorem aget_cons (d : Nat) (tv : TV) (t : Tm) (i : Nat) : aget ((d, tv) :: t) i = if d = i then some tv else aget t i := by
  simp only [aget]
  by_cases h : d = i
  · subst h; simp
  · have : Nat.beq d i = false := by cases e : Nat.beq d i with
      | false => rfl
      | true => exact absurd (Nat.eq_of_beq_eq_true e) h
    simp [this, h]

theorem Fr.keep {s' : List Ch} (hf : Fr n t s a) (hk : Keep s s') : Fr n t s' a :=
  ⟨hf.1, hf.2.1, fun i tv h => let ⟨v, h1, h2⟩ := hf.2.2 i tv h; ⟨v, hk _ _ h1, h2⟩⟩

theorem Fr.put (hf : Fr n t s a) {d : Nat} {tv : TV} {v : Value} (hv : tv.val s = some v) (hd : d < n) : Fr n ((d, tv) :: t) s (a.put (some d) v) := by
  refine ⟨by simp [Act.put, hf.1], hf.2.1, fun i tv' h => ?_⟩
  rw [aget_cons] at h
  split at h
  · rename_i hi; subst hi; cases h
    exact ⟨v, hv, by simp [Act.put, hf.1, hd]⟩
  · rename_i hi
    obtain ⟨v', h1, h2⟩ := hf.2.2 i tv' h
    exact ⟨v', h1, by simp [Act.put, Array.getElem?_setIfInBounds_ne hi, h2]⟩

theorem Fr.putk (hf : Fr n t s a) {dst : Option Nat} {tv : TV} {v : Value} (hv : tv.val s = some v) {q : Tm → Prop} (h : Dw.putk n t dst tv q) : ∃ t', q t' ∧ Fr n t' s (a.put dst v) := by
  cases dst with
  | none => exact ⟨t, h, hf⟩
  | some d =>
    simp only [Dw.putk] at h
    cases hd : Nat.blt d n with
    | false => simp [hd] at h
    | true =>
      simp only [hd] at h
      exact ⟨_, h, hf.put hv (by simpa [Nat.blt_eq] using hd)⟩

/-- a slot's value is set to what it is. -/
theorem Fr.know (hf : Fr n t s a) {d : Nat} {b b' : Bool} (h : aget t d = some (.v (.bool b))) (hb : b = b') : Fr n ((d, .v (.bool b')) :: t) s a := by
  subst hb
  refine ⟨hf.1, hf.2.1, fun i tv' h' => ?_⟩
  rw [aget_cons] at h'
  split at h'
  · rename_i hi; subst hi; cases h'; exact hf.2.2 _ _ h
  · exact hf.2.2 _ _ h'

end

theorem Keep.refl (s : List Ch) : Keep s s := fun _ _ h => h
theorem Keep.trans {a b c : List Ch} (h : Keep a b) (k : Keep b c) : Keep a c := fun _ _ e => k _ _ (h _ _ e)
theorem Keep.app (s cs : List Ch) : Keep s (s ++ cs) := by
  intro tv v h
  have hl : ∀ i c, sget s i = some c → sget (s ++ cs) i = some c := fun i c e => by
    rw [sget_append, if_pos]
    · exact e
    · rw [sget_eq] at e; exact (List.getElem?_eq_some_iff.1 e).1
  cases tv with
  | v x => exact h
  | bx i off =>
    simp only [TV.val] at h ⊢
    cases hs : sget s i with
    | none => simp [hs] at h
    | some c => rw [hl i c hs]; simpa [hs] using h
  | bs i n =>
    simp only [TV.val] at h ⊢
    cases hs : sget s i with
    | none => simp [hs] at h
    | some c => rw [hl i c hs]; simpa [hs] using h
/-- where chunk i keeps its block, or is no box -/
theorem Keep.set {s : List Ch} {i : Nat} {c c' : Ch} (e : sget s i = some c) (h : ∀ b cs T, c = .box b cs T → ∃ cs' T', c' = .box b cs' T') : Keep s (sset s i c') := by
  intro tv v hv
  have key : ∀ j, (match sget s j with | some (.box b _ _) => some b | _ => none) = none ∨ (match sget (sset s i c') j with | some (.box b _ _) => some b | _ => none) = (match sget s j with | some (.box b _ _) => some b | _ => none) := by
    intro j
    rw [sget_sset]
    by_cases hij : i = j
    · subst hij
      rw [if_pos rfl, e]
      cases c with
      | hp h => left; rfl
      | box b cs T => right; obtain ⟨cs', T', rfl⟩ := h b cs T rfl; rfl
    · right; rw [if_neg hij]
  cases tv with
  | v x => exact hv
  | bx j off =>
    simp only [TV.val] at hv ⊢
    have := key j
    cases hs : sget s j with
    | none => simp [hs] at hv
    | some d =>
      cases d with
      | hp h => simp [hs] at hv
      | box b cs T =>
        simp only [hs] at this hv ⊢
        cases hs' : sget (sset s i c') j with
        | none => simp [hs'] at this
        | some d' => cases d' <;> simp [hs'] at this ⊢; subst this; simpa using hv
  | bs j m =>
    simp only [TV.val] at hv ⊢
    have := key j
    cases hs : sget s j with
    | none => simp [hs] at hv
    | some d =>
      cases d with
      | hp h => simp [hs] at hv
      | box b cs T =>
        simp only [hs] at this hv ⊢
        cases hs' : sget (sset s i c') j with
        | none => simp [hs'] at this
        | some d' => cases d' <;> simp [hs'] at this ⊢; subst this; simpa using hv

theorem cellsOf_sound {v : Value} {q : List Value → Prop} (h : cellsOf v q) : q v.cells.toList := by
  cases v <;> simp only [cellsOf, Value.cells] at h ⊢ <;> first | exact h | skip
  · rename_i cs
    obtain ⟨cs⟩ := cs
    rw [forceL_eq] at h
    exact h

theorem Addr.add_mk (b off j : Nat) : (⟨b, off, none⟩ : Addr).add j = ⟨b, off + j, none⟩ := by
  unfold Addr.add; split <;> simp_all
theorem box_cell {s : List Ch} {w : World} (hm : Mem s w) {i b : Nat} {cs : List Value} {T : Nat} (h : sget s i = some (.box b cs T)) {j : Nat} {v : Value} (hj : cs[j]? = some v) : w.cell? ⟨b, j, none⟩ = some v := by
  have h1 := hm i _ h b _ (by simp [Ch.h, Hp.one]; rfl)
  simp [World.cell?, h1, hj]

section
variable {X : Ctx}
theorem Good.und (hX : X.Good) {t : Nat} {i : TI} (h : tget X.tt t = some i) : GoodT X.P t i := hX.2 t i h
theorem GoodT.agg {P : Program} {t : Nat} {i : TI} (h : GoodT P t i) (w : World) : (isAgg t).run P w = .ok i.agg w := by
  obtain ⟨_, hk⟩ := h
  have run_und : ∀ d, P.underlying t = some d → (underlying t).run P w = .ok d w := fun d hd => by simp [underlying, hd]
  unfold isAgg
  cases hi : i.k <;> simp only [hi, GoodK] at hk <;> simp only [TI.agg, hi]
  case st fs => obtain ⟨fields, h1, _⟩ := hk; simp [run_und _ h1]
  case other =>
    obtain ⟨d, h1, h2⟩ := hk
    simp [run_und _ h1]
    cases d <;> simp at h2 ⊢
  all_goals simp [run_und _ hk]
theorem GoodT.size {P : Program} {t : Nat} {i : TI} (h : GoodT P t i) (w : World) : (sizeOf t).run P w = .ok i.size w := by
  obtain ⟨⟨inf, h1, h2, _⟩, _⟩ := h
  simp [sizeOf, typeInfo, h1, h2]
theorem GoodT.zero {P : Program} {t : Nat} {i : TI} (h : GoodT P t i) (w : World) : ∃ z, (zeroValue t).run P w = .ok z w ∧ z.cells = i.zero.toArray := by
  obtain ⟨⟨inf, h1, h2, h3, z, h4, h5, _⟩, _⟩ := h
  exact ⟨z, by simp [zeroValue, typeInfo, h1, h4], h5⟩
theorem GoodT.zlen {P : Program} {t : Nat} {i : TI} (h : GoodT P t i) : i.zero.length = i.size := by
  obtain ⟨⟨inf, h1, h2, h3, z, h4, h5, h6⟩, _⟩ := h
  exact h6

theorem run_loadBox {s : List Ch} (hX : X.Good) {i b off T T' : Nat} {cs : List Value} (hs : sget s i = some (.box b cs T')) {q : TV → Prop} (h : loadBox X T cs off q) :
    ∃ v, q (.v v) ∧ ∀ w, Mem s w → (loadVar T ⟨b, off, none⟩).run X.P w = .ok v w := by
  unfold loadBox at h
  cases ht : tget X.tt T with
  | none => simp [ht] at h
  | some ti =>
    simp only [ht] at h
    have hg := Good.und hX ht
    cases ha : ti.agg with
    | false =>
      simp only [ha] at h
      rw [lget_eq] at h
      cases hc : cs[off]? with
      | none => simp [hc] at h
      | some v =>
        simp only [hc] at h
        refine ⟨v, h, fun w hm => ?_⟩
        have := box_cell hm hs hc
        simp [loadVar, hg.agg, ha, this]
    | true =>
      simp only [ha] at h
      cases hb : Nat.ble (off + ti.size) (lenL cs) with
      | false => simp [hb] at h
      | true =>
        simp only [hb] at h
        rw [forceL_eq, takeL_eq, dropL_eq] at h
        rw [lenL_eq] at hb
        have hb' : off + ti.size ≤ cs.length := Nat.le_of_ble_eq_true hb
        refine ⟨_, h, fun w hm => ?_⟩
        have hl : (List.take ti.size (List.drop off cs)).length = ti.size := by simp; omega
        have := run_loadCells_list (P := X.P) w ⟨b, off, none⟩ (List.take ti.size (List.drop off cs)) (fun j v hj => by
          rw [Addr.add_mk]
          refine box_cell hm hs ?_
          rw [List.getElem?_take] at hj
          split at hj
          · simpa using hj
          · cases hj)
        rw [hl] at this
        simp [loadVar, hg.agg, ha, hg.size, this]
/-- the same of an aggregate value's part -/
theorem run_partBox (hX : X.Good) {off T : Nat} {cs : List Value} {q : TV → Prop} (h : loadBox X T cs off q) :
    ∃ v, q (.v v) ∧ ∀ w, (part T cs.toArray off).run X.P w = .ok v w := by
  unfold loadBox at h
  cases ht : tget X.tt T with
  | none => simp [ht] at h
  | some ti =>
    simp only [ht] at h
    have hg := Good.und hX ht
    cases ha : ti.agg with
    | false =>
      simp only [ha] at h
      rw [lget_eq] at h
      cases hc : cs[off]? with
      | none => simp [hc] at h
      | some v =>
        simp only [hc] at h
        exact ⟨v, h, fun w => by simp [part, hg.agg, ha, hc]⟩
    | true =>
      simp only [ha] at h
      cases hb : Nat.ble (off + ti.size) (lenL cs) with
      | false => simp [hb] at h
      | true =>
        simp only [hb] at h
        rw [forceL_eq, takeL_eq, dropL_eq] at h
        refine ⟨_, h, fun w => ?_⟩
        simp [part, hg.agg, ha, hg.size, List.extract_toArray, List.extract_eq_take_drop]
end
end Go.Dw
