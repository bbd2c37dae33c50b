/- A layer over the wp of loaded Go code: calls that change a heaplet of the caller's. No condition. -/
import Derived.Test.YtdjhgcpmipglfaaDwe
namespace Go.Dw
open Go Go.RowKit

def Hp.minus (g h : Hp) : Hp := fun b => match h b with | some _ => none | none => g b
theorem Hp.minus_le (g h : Hp) : (g.minus h).le g := fun b o e => by
  unfold Hp.minus at e
  cases hb : h b with
  | some x => simp [hb] at e
  | none => simpa [hb] using e
theorem Hp.minus_dj (g h : Hp) : (g.minus h).dj h := fun b => by
  cases hb : h b with
  | some x => left; simp [Hp.minus, hb]
  | none => right; rfl
theorem Hp.le_minus {g h k : Hp} (l : k.le g) (d : k.dj h) : k.le (g.minus h) := fun b o e => by
  have : h b = none := (d b).resolve_left (by rw [e]; simp)
  simp [Hp.minus, this, l b o e]

theorem Ok.start2 (w : World) {h : Hp} (hi : h.In w) : Ok w [.hp ((Hp.whole w).minus h), .hp h] w := by
  refine ⟨rfl, rfl, rfl, Nat.le_refl _, Nat.le_refl _, fun i c e => ?_, fun i j c d hij e1 e2 => ?_⟩
  · match i, e with
    | 0, e => simp [sget] at e; subst e; exact (Hp.whole_in w).le (Hp.minus_le _ _)
    | 1, e => simp [sget] at e; subst e; exact hi
  · match i, j, e1, e2 with
    | 0, 0, _, _ => exact absurd rfl hij
    | 1, 1, _, _ => exact absurd rfl hij
    | 0, 1, e1, e2 => simp [sget] at e1 e2; subst e1; subst e2; exact Hp.minus_dj _ _
    | 1, 0, e1, e2 => simp [sget] at e1 e2; subst e1; subst e2; exact (Hp.minus_dj _ _).symm

/-- What a call that changes heaplet h alone comes to: a value, the heaplet as it is now, and new chunks. -/
def RetM (w : World) (h : Hp) (R : Value → Hp → List Ch → Prop) : Ending → World → Prop := fun e w' => ∃ v h' cs, e = .returned v ∧ Ok w (.hp ((Hp.whole w).minus h) :: .hp h' :: cs) w' ∧ R v h' cs

theorem Ok.callM {w0 w w' : World} {s cs : List Ch} {i : Nat} {h h' : Hp} (hok : Ok w0 s w) (hi : sget s i = some (.hp h)) (hc : Ok w (.hp ((Hp.whole w).minus h) :: .hp h' :: cs) w') : Ok w0 (sset s i (.hp h') ++ cs) w' := by
  -- first the heaplet alone, then the new chunks
  have hlen : ∀ j d, sget (sset s i (.hp h')) j = some d → ∃ d', sget s j = some d' ∧ (j ≠ i → d' = d) ∧ (j = i → d = .hp h') := by
    intro j d e
    rw [sget_sset] at e
    split at e
    · rename_i hij; subst hij; rw [hi] at e; simp at e; exact ⟨_, hi, fun h => absurd rfl h, fun _ => e.symm⟩
    · rename_i hij; exact ⟨d, e, fun _ => rfl, fun h => absurd h.symm hij⟩
  have old : ∀ j d, j ≠ i → sget s j = some d → d.h.le ((Hp.whole w).minus h) := fun j d hj e => Hp.le_minus (hok.mem j d e).whole (hok.disj j i d _ hj e hi)
  have oldIn : ∀ j d, j ≠ i → sget s j = some d → d.h.In w' := fun j d hj e => (hc.mem 0 _ rfl).le (old j d hj e)
  have djl : ∀ {a b c : Hp}, a.le b → b.dj c → a.dj c := fun l d b => by
    rename_i a b' c
    rcases d b with h1 | h1
    · left
      cases ha : a b with
      | none => rfl
      | some o => rw [l b o ha] at h1; cases h1
    · exact .inr h1
  have hdj : (Ch.hp ((Hp.whole w).minus h)).h.dj h' := hc.disj 0 1 _ _ (by omega) rfl rfl
  have cget : ∀ k d, sget cs k = some d → sget (.hp ((Hp.whole w).minus h) :: .hp h' :: cs) (k + 2) = some d := fun k d e => by simpa [sget] using e
  refine ⟨hc.os.trans hok.os, hc.tape.trans hok.tape, hc.output.trans hok.output, Nat.le_trans hok.size hc.size, Nat.le_trans hok.drawn hc.drawn, fun j d e => ?_, fun j k d d' hjk e1 e2 => ?_⟩
  · rw [sget_append] at e
    split at e
    · obtain ⟨d', h1, h2, h3⟩ := hlen j d e
      by_cases hj : j = i
      · rw [h3 hj]; exact hc.mem 1 _ rfl
      · rw [← h2 hj]; exact oldIn j d' hj h1
    · exact hc.mem _ d (cget _ d e)
  · have kk : ∀ j k d d', sget (sset s i (.hp h')) j = some d → sget cs k = some d' → d.h.dj d'.h := by
      intro j k d d' e1 e2
      obtain ⟨x, h1, h2, h3⟩ := hlen j d e1
      by_cases hj : j = i
      · rw [h3 hj]; exact hc.disj 1 (k + 2) _ _ (by omega) rfl (cget k d' e2)
      · rw [← h2 hj]; exact djl (old j x hj h1) (hc.disj 0 (k + 2) _ _ (by omega) rfl (cget k d' e2))
    rw [sget_append] at e1 e2
    split at e1 <;> split at e2
    · obtain ⟨x, h1, h2, h3⟩ := hlen j d e1
      obtain ⟨x', h1', h2', h3'⟩ := hlen k d' e2
      by_cases hj : j = i
      · have hk : k ≠ i := fun e => hjk (hj.trans e.symm)
        rw [h3 hj, ← h2' hk]
        exact (djl (old k x' hk h1') hdj).symm
      · by_cases hk : k = i
        · rw [h3' hk, ← h2 hj]
          exact djl (old j x hj h1) hdj
        · rw [← h2 hj, ← h2' hk]
          exact hok.disj j k x x' hjk h1 h1'
    · exact kk _ _ _ _ e1 e2
    · exact (kk _ _ _ _ e2 e1).symm
    · exact hc.disj _ _ d d' (by omega) (cget _ d e1) (cget _ d' e2)

theorem callM {P : Program} {s : List Ch} {f : Nat} {args : List Value} {q : TV → List Ch → Prop} {i : Nat} {h : Hp} (hi : sget s i = some (.hp h)) {R : Value → Hp → List Ch → Prop}
    (hc : ∀ w, Mem s w → CallsE P f args.toArray w (RetM w h R)) (k : ∀ v h' cs, R v h' cs → q (.v v) (sset s i (.hp h') ++ cs)) : NeedF P s f args q := by
  refine ⟨fun w0 w hok => ⟨(hc w hok.mem).1, (hc w hok.mem).2.mono fun e w' he => ?_⟩⟩
  obtain ⟨v, h', cs, rfl, h1, h2⟩ := he
  exact ⟨v, _, rfl, hok.callM hi h1, (Keep.set hi (fun b cs T e => by cases e)).trans (Keep.app _ cs), k v h' cs h2⟩

/-- The entry of a function that changes heaplet h. -/
theorem enterM {X : Ctx} (hX : X.Good) {f : Nat} {fn : Func} {c : Code} {args : List Value} {w : World} {h : Hp} (hin : h.In w) {R : Value → Hp → List Ch → Prop} (rs : List ResultVar)
    (hf : X.P.funcs[f]? = some fn) (hb : fn.body = some c) (hn : (fn.name == "runtime.NumGoroutine") = false) (hr : fn.results = rs.toArray) (hm : fn.ntmps = X.n) (hl : Nat.ble args.length X.n = true)
    (hwp : WP X c (fun e t s => match e with
      | .exit _ => False
      | _ => resk X s t rs fun v => ∃ h' cs, R v h' cs ∧ ∀ w', Ok w s w' → Ok w (.hp ((Hp.whole w).minus h) :: .hp h' :: cs) w') (iniT 0 args) [.hp ((Hp.whole w).minus h), .hp h]) :
    CallsE X.P f args.toArray w (RetM w h R) := by
  have hl := Nat.le_of_ble_eq_true hl
  refine ⟨fun w => ?_, calls_of_wp hf hb ?_⟩
  · have hn' : ¬ fn.name = "runtime.NumGoroutine" := by simpa using hn
    simp [callFunc, hf, hn', hb]
  · refine wp_mono (WP_sound hX c _ _ _ _ w hwp ⟨by simp [hm]; omega, rfl, fun i tv hi => ?_⟩ (Ok.start2 w hin)) fun e a w' hq => ?_
    · obtain ⟨v, rfl, _, h2⟩ := aget_iniT args 0 i tv hi
      refine ⟨v, rfl, ?_⟩
      have : i < args.length := (List.getElem?_eq_some_iff.1 (by simpa using h2)).1
      rw [Array.getElem?_append_left (by simpa using this)]
      simpa using h2
    · have fin : ∀ t s, Fr X.n t s a → Ok w s w' → (resk X s t rs fun v => ∃ h' cs, R v h' cs ∧ ∀ w', Ok w s w' → Ok w (.hp ((Hp.whole w).minus h) :: .hp h' :: cs) w') →
          a.defers = [] ∧ ∃ v, (results fn a.tmps).run X.P w' = .ok v w' ∧ RetM w h R (.returned v) w' := by
        intro t s hf' hok hk
        obtain ⟨v, h1, h', cs, h2, h3⟩ := resk_ok hX hf'.w hok.mem hk hr
        exact ⟨hf'.2.1, v, h1, v, h', cs, rfl, h3 w' hok, h2⟩
      cases e with
      | normal => obtain ⟨t, s, h1, h2, h3⟩ := hq; exact fin t s h1 h2 h3
      | ret => obtain ⟨t, s, h1, h2, h3⟩ := hq; exact fin t s h1 h2 h3
      | exit i => obtain ⟨t, s, h1, h2, h3⟩ := hq; exact h3.elim
      | goto l => exact hq.elim
      | panic c => exact hq.elim
      | outgrown => exact hq.elim

/-! ### Appending a slice to a slice -/
theorem Sl.src {α : Type} {f : α → List Value} {sz : Nat} (hf : ∀ x, (f x).length = sz) {h : Hp} {a : Option Addr} {n c : Nat} {L : List α} (hs : Sl (encF f) sz h a n c L) {w : World} (hin : h.In w) :
    (∃ c'', Value.slice a n c = .slice none 0 c'' ∧ n = 0) ∨ ∃ ad c', Value.slice a n c = .slice (some ad) n c' ∧ ∀ j u, (L.flatMap f)[j]? = some u → w.cell? (ad.add j) = some u := by
  cases a with
  | none =>
    left
    cases L with
    | nil => have := hs.len; simp at this; subst this; exact ⟨c, rfl, rfl⟩
    | cons x r => obtain ⟨b, off, cs, h1, _⟩ := hs.cells 0 (by simp); cases h1
  | some ad =>
    right
    refine ⟨ad, c, rfl, fun j u hj => ?_⟩
    have hlen : ∀ L : List α, (L.flatMap f).length = L.length * sz := fun L => by
      induction L with
      | nil => simp
      | cons x r ih => simp [List.flatMap_cons, hf, ih, Nat.succ_mul, Nat.add_comm]
    have hjl : j < L.length * sz := by rw [← hlen]; exact (List.getElem?_eq_some_iff.1 hj).1
    have hsz : 0 < sz := by rcases Nat.eq_zero_or_pos sz with h0 | h0; · rw [h0] at hjl; omega
                            · exact h0
    have hi : j / sz < L.length := Nat.div_lt_of_lt_mul (by rw [Nat.mul_comm]; exact hjl)
    obtain ⟨b, off, cs, h1, h2, h3, h4⟩ := hs.cells (j / sz) hi
    cases h1
    have hr : j % sz < sz := Nat.mod_lt _ hsz
    have hjj : j / sz * sz + j % sz = j := by rw [Nat.mul_comm]; exact Nat.div_add_mod j sz
    have e := flat_get f hf L (j / sz) (j % sz) hi hr
    rw [hjj] at e
    rw [e] at hj
    have := h4 (j % sz) u (by rw [show cs = f L[j / sz] from h3]; exact hj)
    rw [Addr.add_mk]
    rw [Nat.add_assoc, hjj] at this
    exact hin.cell this

theorem NeedE.emp {P : Program} {s : List Ch} {e : Sem Value} {q : TV → List Ch → Prop} (h : NeedE P (s ++ [.hp Hp.emp]) e q) : NeedE P s e q := by
  obtain ⟨h⟩ := h
  refine ⟨fun w0 w hok => ?_⟩
  obtain ⟨tv, v, w', s', h1, h2, h3, h4, h5⟩ := h w0 w hok.emp
  exact ⟨tv, v, w', s', h1, h2, (Keep.app s _).trans h3, h4, h5⟩

section
variable {X : Ctx} {s : List Ch}
/-- append(dst, src...), dst owned, src a slice that reads as L' in chunk k -/
theorem appS {α : Type} {f : α → List Value} (hX : X.Good) {T e ty : Nat} {te : TI} (hT : elsz X T = some (e, te)) (hf : ∀ x, (f x).length = te.size) (hone : ∀ x, allOne (f x) = true) {i : Nat} {o : Os} (hi : sget s i = some (.hp o.h)) {L : List α}
    (ho : OwnO f e te.size o L) {a : Option Addr} {n c : Nat} {L' : List α} {k : Nat} {h' : Hp} (hk : sget s k = some (.hp h')) (hs : Sl (encF f) te.size h' a n c L')
    (hby : Nat.ble te.bytes 140 = true) (hn : L.length + L'.length < 1000000000000) {q : TV → List Ch → Prop}
    (hq : ∀ o', OwnO f e te.size o' (L ++ L') → (o'.a = none → L ++ L' = []) → q (.v o'.v) (sset s i (.hp o'.h))) :
    NeedA X.P s #[T, T] ty o.v (.v (.slice a n c)) q := by
  obtain ⟨hl, ho⟩ := ho
  have hb := Nat.le_of_ble_eq_true hby
  have hm := Nat.mul_le_mul (show o.n + n ≤ 1000000000000 by have := hs.len; omega) hb
  have hlen : ∀ L : List α, (L.flatMap f).length = L.length * te.size := fun L => by
    induction L with
    | nil => simp
    | cons x r ih => simp [List.flatMap_cons, hf, ih, Nat.succ_mul, Nat.add_comm]
  refine ⟨.slice a n c, rfl, append_own hX hT hi ho (m := n) (news := L'.flatMap f) (by rw [hlen, hs.len]) (fun v hv => ?_) (by omega) (by have := hs.len; simp only [maxLen]; omega) (fun w hm => hs.src hf (hm k _ hk)) fun a' c' h' ho' hnil => hq ⟨a', o.n + n, c', h'⟩ ⟨?_, ?_⟩ fun ha => ?_⟩
  · obtain ⟨x, _, hx⟩ := List.mem_flatMap.1 hv
    exact allOne_sound (hone x) v hx
  · simp [hl, hs.len]
  · rw [List.flatMap_append]; exact ho'
  · have h0 := hnil ha
    have h2 := hs.len
    refine List.eq_nil_of_length_eq_zero ?_
    rw [List.length_append, ← hl, ← h2]
    exact h0

/-- append(dst, src...), dst of no element and no capacity: the result lies in a new chunk -/
theorem app0 {α : Type} {f : α → List Value} (hX : X.Good) {T e ty : Nat} {te : TI} (hT : elsz X T = some (e, te)) (hf : ∀ x, (f x).length = te.size) (hone : ∀ x, allOne (f x) = true) {a0 : Option Addr}
    {a : Option Addr} {n c : Nat} {L' : List α} {k : Nat} {h' : Hp} (hk : sget s k = some (.hp h')) (hs : Sl (encF f) te.size h' a n c L')
    (hby : Nat.ble te.bytes 140 = true) (hn : L'.length < 1000000000000) {q : TV → List Ch → Prop}
    (hq : ∀ o', OwnO f e te.size o' L' → q (.v o'.v) (s ++ [.hp o'.h])) :
    NeedA X.P s #[T, T] ty (.slice a0 0 0) (.v (.slice a n c)) q := by
  have hk' : sget (s ++ [.hp Hp.emp]) k = some (.hp h') := by
    rw [sget_append, if_pos]
    · exact hk
    · rw [sget_eq] at hk; exact (List.getElem?_eq_some_iff.1 hk).1
  have hset : ∀ c : Ch, sset (s ++ [.hp Hp.emp]) s.length c = s ++ [c] := fun c => by rw [sset_eq]; simp
  obtain ⟨yv, hy, h1⟩ := appS (s := s ++ [.hp Hp.emp]) (ty := ty) hX hT hf hone (i := s.length) (o := ⟨a0, 0, 0, Hp.emp⟩) (sget_last s _) (L := []) ⟨rfl, by simpa using Own.nil _ _ _ _⟩ hk' hs hby (by simpa using hn) (q := q)
    (fun o' ho' _ => by rw [hset]; exact hq o' (by simpa using ho'))
  exact ⟨yv, by simpa [TV.val] using hy, h1.emp⟩
end
end Go.Dw
