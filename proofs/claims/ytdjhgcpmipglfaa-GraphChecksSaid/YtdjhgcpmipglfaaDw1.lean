/- A layer over the wp of loaded Go code: memory as a list of disjoint heaplets, and the laws that keep it. No condition. -/
import Derived.WalkKit
import Derived.OrdersHeld
namespace Go.Dw
open Go Go.RowKit

/-! ### Heaplets -/
def Hp := Nat → Option Obj
namespace Hp
def In (h : Hp) (w : World) : Prop := ∀ b o, h b = some o → w.heap[b]? = some o
def whole (w : World) : Hp := fun b => w.heap[b]?
def one (b : Nat) (o : Obj) : Hp := fun k => if k = b then some o else none
def emp : Hp := fun _ => none
def le (h k : Hp) : Prop := ∀ b o, h b = some o → k b = some o
def dj (h k : Hp) : Prop := ∀ b, h b = none ∨ k b = none
def join (h k : Hp) : Hp := fun b => match h b with | some o => some o | none => k b
def upd (h : Hp) (b : Nat) (o : Obj) : Hp := fun k => if k = b then some o else h k
def cell? (h : Hp) (a : Addr) : Option Value := match h a.block with
  | some (.cells c _ _) => if a.spot.isSome then none else c[a.off]?
  | _ => none

theorem dj.symm {h k : Hp} (d : h.dj k) : k.dj h := fun b => (d b).symm
theorem le.refl (h : Hp) : h.le h := fun _ _ e => e
theorem le.trans {a b c : Hp} (x : a.le b) (y : b.le c) : a.le c := fun _ _ e => y _ _ (x _ _ e)
theorem In.le {h k : Hp} {w : World} (hi : k.In w) (l : h.le k) : h.In w := fun _ _ e => hi _ _ (l _ _ e)
theorem In.whole {h : Hp} {w : World} (hi : h.In w) : h.le (whole w) := hi
theorem whole_in (w : World) : (whole w).In w := fun _ _ e => e
theorem emp_in (w : World) : emp.In w := fun _ _ e => by cases e
theorem In.lt {h : Hp} {w : World} (hi : h.In w) {b : Nat} {o : Obj} (e : h b = some o) : b < w.heap.size :=
  (Array.getElem?_eq_some_iff.1 (hi _ _ e)).1
theorem In.none {h : Hp} {w : World} (hi : h.In w) {b : Nat} (hb : w.heap.size ≤ b) : h b = none := by
  cases e : h b with
  | none => rfl
  | some o => have := hi.lt e; omega
theorem le_join_l (h k : Hp) : h.le (h.join k) := fun b o e => by simp [join, e]
theorem le_join_r {h k : Hp} (d : h.dj k) : k.le (h.join k) := fun b o e => by
  rcases d b with e' | e'
  · simp [join, e', e]
  · rw [e] at e'; cases e'
theorem one_self (b : Nat) (o : Obj) : one b o b = some o := by simp [one]
theorem upd_self (h : Hp) (b : Nat) (o : Obj) : h.upd b o b = some o := by simp [upd]
theorem le.cell {h k : Hp} (l : h.le k) {a : Addr} {v : Value} (e : h.cell? a = some v) : k.cell? a = some v := by
  unfold cell? at *
  cases hb : h a.block with
  | none => rw [hb] at e; cases e
  | some o => rw [hb] at e; rw [l _ _ hb]; exact e
theorem In.cell {h : Hp} {w : World} (hi : h.In w) {a : Addr} {v : Value} (e : h.cell? a = some v) : w.cell? a = some v := by
  unfold cell? at e
  unfold World.cell?
  cases hb : h a.block with
  | none => rw [hb] at e; cases e
  | some o => rw [hb] at e; rw [hi _ _ hb]; exact e
theorem whole_cell (w : World) (a : Addr) : (whole w).cell? a = w.cell? a := rfl
theorem cell_block {h : Hp} {b off : Nat} {arr : Array Value} {T : TypeId} {f : Nat × Nat} (e : h b = some (.cells arr T f)) : h.cell? ⟨b, off, none⟩ = arr[off]? := by
  simp [cell?, e]
end Hp

/-! ### Chunks: a heaplet, or a new variable whose cells are written out -/
inductive Ch where
  | box (b : Nat) (cs : List Value) (T : Nat)
  | hp (h : Hp)
def Ch.h : Ch → Hp
  | .box b cs T => Hp.one b (.cells cs.toArray T (0, 0))
  | .hp h => h

def sget : List Ch → Nat → Option Ch
  | [], _ => none
  | c :: r, i => match i with | 0 => some c | j + 1 => sget r j
def sset : List Ch → Nat → Ch → List Ch
  | [], _, _ => []
  | c :: r, i, d => match i with | 0 => d :: r | j + 1 => c :: sset r j d
theorem sget_eq : ∀ (s : List Ch) (i : Nat), sget s i = s[i]?
  | [], _ => rfl
  | _ :: _, 0 => rfl
  | _ :: r, j + 1 => by simp [sget, sget_eq r j]
theorem sset_eq : ∀ (s : List Ch) (i : Nat) (d : Ch), sset s i d = s.set i d
  | [], _, _ => rfl
  | _ :: _, 0, _ => rfl
  | _ :: r, j + 1, d => by simp [sset, sset_eq r j d]

/-- The world w, reached from w0, holds the chunks s, which are disjoint. -/
structure Ok (w0 : World) (s : List Ch) (w : World) : Prop where
  os : w.os = w0.os
  tape : w.tape = w0.tape
  output : w.output = w0.output
  size : w0.heap.size ≤ w.heap.size
  drawn : w0.drawn ≤ w.drawn
  mem : ∀ i c, sget s i = some c → c.h.In w
  disj : ∀ i j c d, i ≠ j → sget s i = some c → sget s j = some d → c.h.dj d.h

def Mem (s : List Ch) (w : World) : Prop := ∀ i c, sget s i = some c → c.h.In w

theorem Ok.start (w : World) : Ok w [.hp (Hp.whole w)] w := by
  refine ⟨rfl, rfl, rfl, Nat.le_refl _, Nat.le_refl _, fun i c e => ?_, fun i j c d hij e1 e2 => ?_⟩
  · match i, e with
    | 0, e => simp [sget] at e; subst e; exact Hp.whole_in w
  · match i, j, e1, e2 with
    | 0, 0, _, _ => exact absurd rfl hij

theorem Ok.below {w0 w : World} {s : List Ch} (h : Ok w0 (.hp (Hp.whole w0) :: s) w) : Below w0.heap.size w0 w := by
  refine ⟨h.os, h.tape, h.output, h.size, fun k hk => ?_⟩
  have hi := h.mem 0 _ rfl
  have e : w0.heap[k]? = some w0.heap[k] := Array.getElem?_eq_getElem hk
  rw [e]
  exact hi k _ e

theorem Ok.drew {w0 w : World} {s : List Ch} (h : Ok w0 s w) : Ok w0 s { w with drawn := w.drawn + 1 } :=
  ⟨h.os, h.tape, h.output, h.size, Nat.le_succ_of_le h.drawn, h.mem, h.disj⟩

theorem Ok.lt {w0 w : World} {s : List Ch} (h : Ok w0 s w) {i : Nat} {c : Ch} (e : sget s i = some c) {b : Nat} {o : Obj} (eb : c.h b = some o) : b < w.heap.size := (h.mem i c e).lt eb

theorem sget_append (s t : List Ch) (i : Nat) : sget (s ++ t) i = if i < s.length then sget s i else sget t (i - s.length) := by
  rw [sget_eq, sget_eq, sget_eq, List.getElem?_append]

/-- A new block. -/
theorem Ok.alloc {w0 w : World} {s : List Ch} (h : Ok w0 s w) (c : Ch) (o : Obj) (hc : c.h = Hp.one w.heap.size o) : Ok w0 (s ++ [c]) (w.alloc o) := by
  refine ⟨h.os, h.tape, h.output, by have := h.size; simp; omega, h.drawn, fun i d e => ?_, fun i j d d' hij e1 e2 => ?_⟩
  · rw [sget_append] at e
    split at e
    · intro b o' e'
      have := (h.mem i d e) b o' e'
      show (w.heap.push o)[b]? = _
      rw [Array.getElem?_push, if_neg (by have := h.lt e e'; omega)]
      exact this
    · rename_i hi
      match hk : i - s.length, e with
      | 0, e =>
        simp [sget] at e; subst e
        intro b o' e'
        rw [hc] at e'
        simp only [Hp.one] at e'
        split at e'
        · rename_i hb; subst hb; simp only [Option.some.injEq] at e'; subst e'
          show (w.heap.push o)[w.heap.size]? = _
          simp
        · cases e'
  · have key : ∀ (i : Nat) (d : Ch), sget s i = some d → d.h.dj c.h := by
      intro i d e b
      by_cases hb : b = w.heap.size
      · exact .inl ((h.mem i d e).none (by omega))
      · right; rw [hc]; simp [Hp.one, hb]
    rw [sget_append] at e1 e2
    split at e1 <;> split at e2
    · exact h.disj i j d d' hij e1 e2
    · match hk : j - s.length, e2 with
      | 0, e2 => simp [sget] at e2; subst e2; exact key i d e1
    · match hk : i - s.length, e1 with
      | 0, e1 => simp [sget] at e1; subst e1; exact (key j d' e2).symm
    · match hk : i - s.length, hk' : j - s.length, e1, e2 with
      | 0, 0, _, _ => omega

theorem sget_sset (s : List Ch) (i j : Nat) (d : Ch) : sget (sset s i d) j = if i = j then (sget s j).map (fun _ => d) else sget s j := by
  simp only [sget_eq, sset_eq, List.getElem?_set]
  by_cases h : i = j
  · subst h; by_cases h' : i < s.length <;> simp [h']
  · simp [h]

/-- Chunk i alone turns (and may move to new blocks). -/
theorem Ok.upd {w0 w w' : World} {s : List Ch} (h : Ok w0 s w) {i : Nat} {c : Ch} (e : sget s i = some c) (c' : Ch)
    (hos : w'.os = w.os) (htape : w'.tape = w.tape) (hout : w'.output = w.output) (hsz : w.heap.size ≤ w'.heap.size) (hdr : w.drawn ≤ w'.drawn)
    (hk : ∀ k, k < w.heap.size → c.h k = none → w'.heap[k]? = w.heap[k]?) (hc : c'.h.In w') (hd : ∀ k, c'.h k ≠ none → c.h k ≠ none ∨ w.heap.size ≤ k) :
    Ok w0 (sset s i c') w' := by
  have hdj : ∀ j d, i ≠ j → sget s j = some d → c'.h.dj d.h := by
    intro j d hij ed b
    by_cases hb : c'.h b = none
    · exact .inl hb
    · right
      rcases hd b hb with h1 | h1
      · exact (h.disj i j c d hij e ed b).resolve_left h1
      · exact (h.mem j d ed).none h1
  refine ⟨hos.trans h.os, htape.trans h.tape, hout.trans h.output, Nat.le_trans h.size hsz, Nat.le_trans h.drawn hdr, fun j d ed => ?_, fun j j' d d' hjj e1 e2 => ?_⟩
  · rw [sget_sset] at ed
    split at ed
    · rename_i hij; subst hij; rw [e] at ed; simp at ed; subst ed; exact hc
    · rename_i hij
      intro b o eb
      have h1 := h.mem j d ed b o eb
      rw [hk b (h.lt ed eb) ((h.disj i j c d hij e ed b).resolve_right (by rw [eb]; simp))]
      exact h1
  · rw [sget_sset] at e1 e2
    split at e1
    · rename_i hij; subst hij; rw [e] at e1; simp at e1; subst e1
      rw [if_neg hjj] at e2
      exact hdj j' d' hjj e2
    · rename_i hij
      split at e2
      · rename_i hij'; subst hij'; rw [e] at e2; simp at e2; subst e2
        exact (hdj j d hij e1).symm
      · exact h.disj j j' d d' hjj e1 e2

/-- Behind a call that leaves all that was there, and new chunks cs. -/
theorem Ok.call {w0 w w' : World} {s cs : List Ch} (h : Ok w0 s w) (h' : Ok w (.hp (Hp.whole w) :: cs) w') : Ok w0 (s ++ cs) w' := by
  have hw : ∀ (b : Nat) (o : Obj), w.heap[b]? = some o → w'.heap[b]? = some o := fun b o e => h'.mem 0 _ rfl b o e
  have new : ∀ j d, sget cs j = some d → ∀ b, b < w.heap.size → d.h b = none := by
    intro j d e b hb
    have := h'.disj 0 (j + 1) _ d (by omega) rfl (by simpa [sget] using e) b
    refine this.resolve_left ?_
    show w.heap[b]? ≠ none
    rw [Array.getElem?_eq_getElem hb]; simp
  refine ⟨h'.os.trans h.os, h'.tape.trans h.tape, h'.output.trans h.output, Nat.le_trans h.size h'.size, Nat.le_trans h.drawn h'.drawn, fun i c e => ?_, fun i j c d hij e1 e2 => ?_⟩
  · rw [sget_append] at e
    split at e
    · exact fun b o eb => hw b o (h.mem i c e b o eb)
    · exact h'.mem (i - s.length + 1) c (by simpa [sget] using e)
  · have key : ∀ i j c d, sget s i = some c → sget cs j = some d → c.h.dj d.h := by
      intro i j c d e1 e2 b
      by_cases hb : b < w.heap.size
      · exact .inr (new j d e2 b hb)
      · exact .inl ((h.mem i c e1).none (by omega))
    rw [sget_append] at e1 e2
    split at e1 <;> split at e2
    · exact h.disj i j c d hij e1 e2
    · exact key _ _ _ _ e1 e2
    · exact (key _ _ _ _ e2 e1).symm
    · exact h'.disj (i - s.length + 1) (j - s.length + 1) c d (by omega) (by simpa [sget] using e1) (by simpa [sget] using e2)

/-- What a call that writes nothing old comes to: a value, and new chunks. -/
def Ret (w : World) (R : Value → List Ch → Prop) : Ending → World → Prop := fun e w' => ∃ v cs, e = .returned v ∧ Ok w (.hp (Hp.whole w) :: cs) w' ∧ R v cs

end Go.Dw
