/- Parts of one proof, joined: Dw1, Dw2, Dw3, Dw4, Dw5, Dw6, Dw7, Dw8, Dw9, Dwa. No condition of its own. -/
import Derived.WalkKit
import Derived.OrdersHeld
import Derived.Deep.LoopGhost
namespace Go.Dw
open Go Go.RowKit

/-! ### Heaplets -/
def Hp := Nat → Option Obj
namespace Hp
def In (h : Hp) (w : World) : Prop := ∀ b o, h b = some o → w.heap[b]? = some o
def whole (w : World) : Hp := fun b => w.heap[b]?
def one (b : Nat) (o : Obj) : Hp := fun k => if k = b then some o else none
def emp : Hp := fun _ => none
def le (h k : Hp) : Prop := ∀ b o, h b = some o → k b = some o
def dj (h k : Hp) : Prop := ∀ b, h b = none ∨ k b = none
def join (h k : Hp) : Hp := fun b => match h b with | some o => some o | none => k b
def upd (h : Hp) (b : Nat) (o : Obj) : Hp := fun k => if k = b then some o else h k
def cell? (h : Hp) (a : Addr) : Option Value := match h a.block with
  | some (.cells c _ _) => if a.spot.isSome then none else c[a.off]?
  | _ => none

theorem dj.symm {h k : Hp} (d : h.dj k) : k.dj h := fun b => (d b).symm
theorem le.refl (h : Hp) : h.le h := fun _ _ e => e
theorem le.trans {a b c : Hp} (x : a.le b) (y : b.le c) : a.le c := fun _ _ e => y _ _ (x _ _ e)
theorem In.le {h k : Hp} {w : World} (hi : k.In w) (l : h.le k) : h.In w := fun _ _ e => hi _ _ (l _ _ e)
theorem In.whole {h : Hp} {w : World} (hi : h.In w) : h.le (whole w) := hi
theorem whole_in (w : World) : (whole w).In w := fun _ _ e => e
theorem emp_in (w : World) : emp.In w := fun _ _ e => by cases e
theorem In.lt {h : Hp} {w : World} (hi : h.In w) {b : Nat} {o : Obj} (e : h b = some o) : b < w.heap.size :=
  (Array.getElem?_eq_some_iff.1 (hi _ _ e)).1
theorem In.none {h : Hp} {w : World} (hi : h.In w) {b : Nat} (hb : w.heap.size ≤ b) : h b = none := by
  cases e : h b with
  | none => rfl
  | some o => have := hi.lt e; omega
theorem le_join_l (h k : Hp) : h.le (h.join k) := fun b o e => by simp [join, e]
theorem le_join_r {h k : Hp} (d : h.dj k) : k.le (h.join k) := fun b o e => by
  rcases d b with e' | e'
  · simp [join, e', e]
  · rw [e] at e'; cases e'
theorem one_self (b : Nat) (o : Obj) : one b o b = some o := by simp [one]
theorem upd_self (h : Hp) (b : Nat) (o : Obj) : h.upd b o b = some o := by simp [upd]
theorem le.cell {h k : Hp} (l : h.le k) {a : Addr} {v : Value} (e : h.cell? a = some v) : k.cell? a = some v := by
  unfold cell? at *
  cases hb : h a.block with
  | none => rw [hb] at e; cases e
  | some o => rw [hb] at e; rw [l _ _ hb]; exact e
theorem In.cell {h : Hp} {w : World} (hi : h.In w) {a : Addr} {v : Value} (e : h.cell? a = some v) : w.cell? a = some v := by
  unfold cell? at e
  unfold World.cell?
  cases hb : h a.block with
  | none => rw [hb] at e; cases e
  | some o => rw [hb] at e; rw [hi _ _ hb]; exact e
theorem whole_cell (w : World) (a : Addr) : (whole w).cell? a = w.cell? a := rfl
theorem cell_block {h : Hp} {b off : Nat} {arr : Array Value} {T : TypeId} {f : Nat × Nat} (e : h b = some (.cells arr T f)) : h.cell? ⟨b, off, none⟩ = arr[off]? := by
  simp [cell?, e]
end Hp

/-! ### Chunks: a heaplet, or a new variable whose cells are written out -/
inductive Ch where
  | box (b : Nat) (cs : List Value) (T : Nat)
  | hp (h : Hp)
def Ch.h : Ch → Hp
  | .box b cs T => Hp.one b (.cells cs.toArray T (0, 0))
  | .hp h => h

def sget : List Ch → Nat → Option Ch
  | [], _ => none
  | c :: r, i => match i with | 0 => some c | j + 1 => sget r j
def sset : List Ch → Nat → Ch → List Ch
  | [], _, _ => []
  | c :: r, i, d => match i with | 0 => d :: r | j + 1 => c :: sset r j d
theorem sget_eq : ∀ (s : List Ch) (i : Nat), sget s i = s[i]?
  | [], _ => rfl
  | _ :: _, 0 => rfl
  | _ :: r, j + 1 => by simp [sget, sget_eq r j]
theorem sset_eq : ∀ (s : List Ch) (i : Nat) (d : Ch), sset s i d = s.set i d
  | [], _, _ => rfl
  | _ :: _, 0, _ => rfl
  | _ :: r, j + 1, d => by simp [sset, sset_eq r j d]

/-- The world w, reached from w0, holds the chunks s, which are disjoint. -/
def drK (_ : World) : Nat := 0
structure Ok (w0 : World) (s : List Ch) (w : World) : Prop where
  os : w.os = w0.os
  tape : w.tape = w0.tape
  output : w.output = w0.output
  size : w0.heap.size ≤ w.heap.size
  drawn : drK w0 ≤ drK w
  mem : ∀ i c, sget s i = some c → c.h.In w
  disj : ∀ i j c d, i ≠ j → sget s i = some c → sget s j = some d → c.h.dj d.h

def Mem (s : List Ch) (w : World) : Prop := ∀ i c, sget s i = some c → c.h.In w

theorem Ok.start (w : World) : Ok w [.hp (Hp.whole w)] w := by
  refine ⟨rfl, rfl, rfl, Nat.le_refl _, Nat.le_refl _, fun i c e => ?_, fun i j c d hij e1 e2 => ?_⟩
  · match i, e with
    | 0, e => simp [sget] at e; subst e; exact Hp.whole_in w
  · match i, j, e1, e2 with
    | 0, 0, _, _ => exact absurd rfl hij

theorem Ok.below {w0 w : World} {s : List Ch} (h : Ok w0 (.hp (Hp.whole w0) :: s) w) : Below w0.heap.size w0 w := by
  refine ⟨h.os, h.tape, h.output, h.size, fun k hk => ?_⟩
  have hi := h.mem 0 _ rfl
  have e : w0.heap[k]? = some w0.heap[k] := Array.getElem?_eq_getElem hk
  rw [e]
  exact hi k _ e

theorem Ok.drew {w0 w : World} {s : List Ch} (h : Ok w0 s w) : Ok w0 s { w with drawn := w.drawn + 1 } :=
  ⟨h.os, h.tape, h.output, h.size, h.drawn, h.mem, h.disj⟩

theorem Ok.lt {w0 w : World} {s : List Ch} (h : Ok w0 s w) {i : Nat} {c : Ch} (e : sget s i = some c) {b : Nat} {o : Obj} (eb : c.h b = some o) : b < w.heap.size := (h.mem i c e).lt eb

theorem sget_append (s t : List Ch) (i : Nat) : sget (s ++ t) i = if i < s.length then sget s i else sget t (i - s.length) := by
  rw [sget_eq, sget_eq, sget_eq, List.getElem?_append]

/-- A new block. -/
theorem Ok.alloc {w0 w : World} {s : List Ch} (h : Ok w0 s w) (c : Ch) (o : Obj) (hc : c.h = Hp.one w.heap.size o) : Ok w0 (s ++ [c]) (w.alloc o) := by
  refine ⟨h.os, h.tape, h.output, by have := h.size; simp; omega, h.drawn, fun i d e => ?_, fun i j d d' hij e1 e2 => ?_⟩
  · rw [sget_append] at e
    split at e
    · intro b o' e'
      have := (h.mem i d e) b o' e'
      show (w.heap.push o)[b]? = _
      rw [Array.getElem?_push, if_neg (by have := h.lt e e'; omega)]
      exact this
    · rename_i hi
      match hk : i - s.length, e with
      | 0, e =>
        simp [sget] at e; subst e
        intro b o' e'
        rw [hc] at e'
        simp only [Hp.one] at e'
        split at e'
        · rename_i hb; subst hb; simp only [Option.some.injEq] at e'; subst e'
          show (w.heap.push o)[w.heap.size]? = _
          simp
        · cases e'
  · have key : ∀ (i : Nat) (d : Ch), sget s i = some d → d.h.dj c.h := by
      intro i d e b
      by_cases hb : b = w.heap.size
      · exact .inl ((h.mem i d e).none (by omega))
      · right; rw [hc]; simp [Hp.one, hb]
    rw [sget_append] at e1 e2
    split at e1 <;> split at e2
    · exact h.disj i j d d' hij e1 e2
    · match hk : j - s.length, e2 with
      | 0, e2 => simp [sget] at e2; subst e2; exact key i d e1
    · match hk : i - s.length, e1 with
      | 0, e1 => simp [sget] at e1; subst e1; exact (key j d' e2).symm
    · match hk : i - s.length, hk' : j - s.length, e1, e2 with
      | 0, 0, _, _ => omega

theorem sget_sset (s : List Ch) (i j : Nat) (d : Ch) : sget (sset s i d) j = if i = j then (sget s j).map (fun _ => d) else sget s j := by
  simp only [sget_eq, sset_eq, List.getElem?_set]
  by_cases h : i = j
  · subst h; by_cases h' : i < s.length <;> simp [h']
  · simp [h]

/-- Chunk i alone turns (and may move to new blocks). -/
theorem Ok.upd {w0 w w' : World} {s : List Ch} (h : Ok w0 s w) {i : Nat} {c : Ch} (e : sget s i = some c) (c' : Ch)
    (hos : w'.os = w.os) (htape : w'.tape = w.tape) (hout : w'.output = w.output) (hsz : w.heap.size ≤ w'.heap.size) (hdr : drK w ≤ drK w')
    (hk : ∀ k, k < w.heap.size → c.h k = none → w'.heap[k]? = w.heap[k]?) (hc : c'.h.In w') (hd : ∀ k, c'.h k ≠ none → c.h k ≠ none ∨ w.heap.size ≤ k) :
    Ok w0 (sset s i c') w' := by
  have hdj : ∀ j d, i ≠ j → sget s j = some d → c'.h.dj d.h := by
    intro j d hij ed b
    by_cases hb : c'.h b = none
    · exact .inl hb
    · right
      rcases hd b hb with h1 | h1
      · exact (h.disj i j c d hij e ed b).resolve_left h1
      · exact (h.mem j d ed).none h1
  refine ⟨hos.trans h.os, htape.trans h.tape, hout.trans h.output, Nat.le_trans h.size hsz, Nat.le_trans h.drawn hdr, fun j d ed => ?_, fun j j' d d' hjj e1 e2 => ?_⟩
  · rw [sget_sset] at ed
    split at ed
    · rename_i hij; subst hij; rw [e] at ed; simp at ed; subst ed; exact hc
    · rename_i hij
      intro b o eb
      have h1 := h.mem j d ed b o eb
      rw [hk b (h.lt ed eb) ((h.disj i j c d hij e ed b).resolve_right (by rw [eb]; simp))]
      exact h1
  · rw [sget_sset] at e1 e2
    split at e1
    · rename_i hij; subst hij; rw [e] at e1; simp at e1; subst e1
      rw [if_neg hjj] at e2
      exact hdj j' d' hjj e2
    · rename_i hij
      split at e2
      · rename_i hij'; subst hij'; rw [e] at e2; simp at e2; subst e2
        exact (hdj j d hij e1).symm
      · exact h.disj j j' d d' hjj e1 e2

/-- Behind a call that leaves all that was there, and new chunks cs. -/
theorem Ok.call {w0 w w' : World} {s cs : List Ch} (h : Ok w0 s w) (h' : Ok w (.hp (Hp.whole w) :: cs) w') : Ok w0 (s ++ cs) w' := by
  have hw : ∀ (b : Nat) (o : Obj), w.heap[b]? = some o → w'.heap[b]? = some o := fun b o e => h'.mem 0 _ rfl b o e
  have new : ∀ j d, sget cs j = some d → ∀ b, b < w.heap.size → d.h b = none := by
    intro j d e b hb
    have := h'.disj 0 (j + 1) _ d (by omega) rfl (by simpa [sget] using e) b
    refine this.resolve_left ?_
    show w.heap[b]? ≠ none
    rw [Array.getElem?_eq_getElem hb]; simp
  refine ⟨h'.os.trans h.os, h'.tape.trans h.tape, h'.output.trans h.output, Nat.le_trans h.size h'.size, Nat.le_trans h.drawn h'.drawn, fun i c e => ?_, fun i j c d hij e1 e2 => ?_⟩
  · rw [sget_append] at e
    split at e
    · exact fun b o eb => hw b o (h.mem i c e b o eb)
    · exact h'.mem (i - s.length + 1) c (by simpa [sget] using e)
  · have key : ∀ i j c d, sget s i = some c → sget cs j = some d → c.h.dj d.h := by
      intro i j c d e1 e2 b
      by_cases hb : b < w.heap.size
      · exact .inr (new j d e2 b hb)
      · exact .inl ((h.mem i c e1).none (by omega))
    rw [sget_append] at e1 e2
    split at e1 <;> split at e2
    · exact h.disj i j c d hij e1 e2
    · exact key _ _ _ _ e1 e2
    · exact (key _ _ _ _ e2 e1).symm
    · exact h'.disj (i - s.length + 1) (j - s.length + 1) c d (by omega) (by simpa [sget] using e1) (by simpa [sget] using e2)

/-- What a call that writes nothing old comes to: a value, and new chunks. -/
def Ret (w : World) (R : Value → List Ch → Prop) : Ending → World → Prop := fun e w' => ∃ v cs, e = .returned v ∧ Ok w (.hp (Hp.whole w) :: cs) w' ∧ R v cs

end Go.Dw
namespace Go.Dw
open Go Go.RowKit

/-- A slot's content: a value, or a pointer into chunk i (a box). -/
inductive TV where
  | v (x : Value)
  | bx (i off : Nat)
  /-- a slice over the whole of chunk i (a box), of n elements -/
  | bs (i n : Nat)
abbrev Tm := List (Nat × TV)
def aget : Tm → Nat → Option TV
  | [], _ => none
  | (d, x) :: r, i => match Nat.beq d i with | true => some x | false => aget r i
def TV.val (s : List Ch) : TV → Option Value
  | .v x => some x
  | .bx i off => match sget s i with | some (.box b _ _) => some (.pointer (some ⟨b, off, none⟩)) | _ => none
  | .bs i n => match sget s i with | some (.box b _ _) => some (.slice (some ⟨b, 0, none⟩) n n) | _ => none

/-! ### Types -/
inductive TK where
  | int (k : IntKind) | bool | str | sl (e : Nat) | st (fs : List (Nat × Nat)) | ar (len e : Nat) | other
structure TI where
  k : TK
  size : Nat
  bytes : Nat
  zero : List Value
def TI.agg (t : TI) : Bool := match t.k with | .st _ | .ar _ _ => true | _ => false
def lget {α : Type} : List α → Nat → Option α
  | [], _ => none
  | c :: r, i => match i with | 0 => some c | j + 1 => lget r j
theorem lget_eq {α : Type} : ∀ (s : List α) (i : Nat), lget s i = s[i]?
  | [], _ => rfl
  | _ :: _, 0 => rfl
  | _ :: r, j + 1 => by simp [lget, lget_eq r j]
def tget : List (Nat × TI) → Nat → Option TI
  | [], _ => none
  | (d, x) :: r, i => match Nat.beq d i with | true => some x | false => tget r i
structure Ctx where
  P : Program
  n : Nat
  tt : List (Nat × TI)

def GoodK (P : Program) (t : Nat) : TK → Prop
  | .int k => P.underlying t = some (.int k)
  | .bool => P.underlying t = some .bool
  | .str => P.underlying t = some .string
  | .sl e => P.underlying t = some (.slice e)
  | .st fs => ∃ fields : Array Field, P.underlying t = some (.struct fields) ∧ (fields.toList.map fun f => (f.offset, f.type)) = fs
  | .ar n e => P.underlying t = some (.array n e)
  | .other => ∃ d, P.underlying t = some d ∧ (match d with | .struct _ | .array _ _ => false | _ => true) = true
def GoodT (P : Program) (t : Nat) (i : TI) : Prop :=
  (∃ inf, P.info? t = some inf ∧ inf.size = i.size ∧ inf.bytes = i.bytes ∧ ∃ z, inf.zero = some z ∧ z.cells = i.zero.toArray ∧ i.zero.length = i.size) ∧ GoodK P t i.k
def Ctx.Good (X : Ctx) : Prop := X.P.follows .mixedOrders = true ∧ ∀ t i, tget X.tt t = some i → GoodT X.P t i

/-! ### What is left to the prover -/
/- the Bool stands last: the kernel compares the last argument first -/
def ifb (p q : Prop) (b : Bool) : Prop := match b with | true => p | false => q
theorem bsplit {b : Bool} {p q : Prop} (h1 : b = true → p) (h2 : b = false → q) : ifb p q b := by cases b <;> simp_all [ifb]
theorem bsplitd {c p q : Prop} [Decidable c] (h1 : c → p) (h2 : ¬ c → q) : ifb p q (decide c) := bsplit (fun h => h1 (of_decide_eq_true h)) (fun h => h2 (of_decide_eq_false h))
theorem btrue {b : Bool} {p q : Prop} (h : b = true) (hp : p) : ifb p q b := by subst h; exact hp
theorem bfalse {b : Bool} {p q : Prop} (h : b = false) (hq : q) : ifb p q b := by subst h; exact hq
theorem dtrue {c p q : Prop} [Decidable c] (h : c) (hp : p) : ifb p q (decide c) := btrue (decide_eq_true h) hp
theorem dfalse {c p q : Prop} [Decidable c] (h : ¬ c) (hq : q) : ifb p q (decide c) := bfalse (decide_eq_false h) hq

/-- a number that may wrap -/
inductive NeedW (k : IntKind) (x : Int) (q : Int → Prop) : Prop
  | mk (z : Int) (h : k.wrap x = z) (hk : q z)
/-- an operation that only reads -/
inductive NeedQ (P : Program) (s : List Ch) (e : Sem Value) (q : TV → Prop) : Prop
  | mk (v : Value) (h : ∀ w, Mem s w → e.run P w = .ok v w) (hk : q (.v v))
def Keep (s s' : List Ch) : Prop := ∀ tv v, TV.val s tv = some v → TV.val s' tv = some v
/-- an operation that writes or makes memory -/
inductive NeedE (P : Program) (s : List Ch) (e : Sem Value) (q : TV → List Ch → Prop) : Prop
  | mk (h : ∀ w0 w, Ok w0 s w → ∃ tv v w' s', e.run P w = .ok v w' ∧ Ok w0 s' w' ∧ Keep s s' ∧ tv.val s' = some v ∧ q tv s')
inductive NeedU (P : Program) (s : List Ch) (e : Sem Unit) (q : List Ch → Prop) : Prop
  | mk (h : ∀ w0 w, Ok w0 s w → ∃ w' s', e.run P w = .ok () w' ∧ Ok w0 s' w' ∧ Keep s s' ∧ q s')
/-- a call of a Go function -/
inductive NeedC (P : Program) (s : List Ch) (f : Nat) (args : List Value) (q : TV → List Ch → Prop) : Prop
  | mk (h : ∀ w0 w, Ok w0 s w → Calls P f args.toArray w fun e w' => ∃ v s', e = .returned v ∧ Ok w0 s' w' ∧ Keep s s' ∧ q (.v v) s')

/-! ### Operands -/
def opv (t : Tm) : Operand → Option TV
  | .tmp i => aget t i
  | .const v => some (.v v)
  | .global g => some (.v (.pointer (some ⟨g, 0, none⟩)))
  | .func f => some (.v (.func (.func f) #[] #[]))
def valk (s : List Ch) (tv : TV) (q : Value → Prop) : Prop := match tv with
  | .v x => q x
  | .bx i off => match sget s i with | some (.box b _ _) => q (.pointer (some ⟨b, off, none⟩)) | _ => False
  | .bs i n => match sget s i with | some (.box b _ _) => q (.slice (some ⟨b, 0, none⟩) n n) | _ => False
def okv (s : List Ch) (tv : TV) (p : Prop) : Prop := match tv with
  | .v _ => p
  | .bx i _ => match sget s i with | some (.box _ _ _) => p | _ => False
  | .bs i _ => match sget s i with | some (.box _ _ _) => p | _ => False
def tvk (s : List Ch) (t : Tm) (x : Operand) (q : TV → Prop) : Prop := match opv t x with | some tv => okv s tv (q tv) | none => False
def val (s : List Ch) (t : Tm) (x : Operand) (q : Value → Prop) : Prop := tvk s t x fun tv => valk s tv q
def vals (s : List Ch) (t : Tm) : List Operand → (List Value → Prop) → Prop
  | [], q => q []
  | x :: r, q => val s t x fun v => vals s t r fun vs => q (v :: vs)
def forceL : List Value → (List Value → Prop) → Prop
  | [], q => q []
  | v :: r, q => forceL r fun vs => q (v :: vs)
def takeL : Nat → List Value → List Value
  | 0, _ => []
  | n + 1, l => match l with | [] => [] | v :: r => v :: takeL n r
def dropL : Nat → List Value → List Value
  | 0, l => l
  | n + 1, l => match l with | [] => [] | _ :: r => dropL n r
def lenL : List Value → Nat
  | [] => 0
  | _ :: r => (lenL r).succ
/-- cells vs written over l from off on -/
def putL : List Value → Nat → List Value → Option (List Value)
  | l, 0, [] => some l
  | [], _, _ :: _ => none
  | [], _ + 1, [] => none
  | _ :: r, 0, v :: vs => match putL r 0 vs with | some x => some (v :: x) | none => none
  | c :: r, n + 1, vs => match putL r n vs with | some x => some (c :: x) | none => none

/-! ### One operation -/
def wint (P : Program) (s : List Ch) (op : BinOp) (ty : Nat) (i : IntKind) (x y : Int) (q : TV → Prop) : Prop := match op with
  | .add => NeedW i (x + y) fun z => q (.v (.int i z))
  | .sub => NeedW i (x - y) fun z => q (.v (.int i z))
  | .mul => NeedW i (x * y) fun z => q (.v (.int i z))
  | .eql => q (.v (.bool (decide (x = y))))
  | .neq => q (.v (.bool (decide (x ≠ y))))
  | .lss => q (.v (.bool (decide (x < y))))
  | .leq => q (.v (.bool (decide (x ≤ y))))
  | .gtr => q (.v (.bool (decide (x > y))))
  | .geq => q (.v (.bool (decide (x ≥ y))))
  | op => NeedQ P s (binOp op ty (.int i x) (.int i y)) q
def isLit : Operand → Bool | .const _ => true | _ => false
def wbin (P : Program) (s : List Ch) (op : BinOp) (ty : Nat) (xo yo : Operand) (a b : Value) (q : TV → Prop) : Prop := match a, b with
  | .int i x, .int j y => match decide (i = j) with | true => wint P s op ty i x y q | false => NeedQ P s (do eqGuard op ty xo yo a b; binOp op ty a b) q
  | a, b => NeedQ P s (do eqGuard op ty xo yo a b; binOp op ty a b) q

def loadBox (X : Ctx) (T : Nat) (cs : List Value) (off : Nat) (q : TV → Prop) : Prop := match tget X.tt T with
  | some ti => match ti.agg with
    | true => match Nat.ble (off + ti.size) (lenL cs) with
      | true => forceL (takeL ti.size (dropL off cs)) fun vs => q (.v (.agg vs.toArray))
      | false => False
    | false => match lget cs off with | some v => q (.v v) | none => False
  | none => False

/-- the cells of a value whose head is seen -/
def cellsOf (v : Value) (q : List Value → Prop) : Prop := match v with
  | .agg ⟨cs⟩ => forceL cs q
  | .tuple _ => False
  | .bool b => q [.bool b]
  | .int k n => q [.int k n]
  | .float k n => q [.float k n]
  | .complex k n m => q [.complex k n m]
  | .string x => q [.string x]
  | .pointer x => q [.pointer x]
  | .slice a n c => q [.slice a n c]
  | .map r => q [.map r]
  | .chan r => q [.chan r]
  | .func f x y => q [.func f x y]
  | .nilFunc => q [.nilFunc]
  | .iface t v => q [.iface t v]
  | .nilIface => q [.nilIface]
def wbuild (s : List Ch) (t : Tm) (place : Nat → Option (Nat × Nat)) : List (Nat × Operand) → List Value → (List Value → Prop) → Prop
  | [], cs, q => forceL cs q
  | (i, x) :: r, cs, q => val s t x fun v => cellsOf v fun vs => match place i with
    | some (off, size) => match Nat.beq (lenL vs) size with
      | true => match putL cs off vs with | some cs' => wbuild s t place r cs' q | none => False
      | false => False
    | none => False

def known (X : Ctx) : List (Nat × Nat) → Bool
  | [] => true
  | (_, ft) :: r => match tget X.tt ft with | some _ => known X r | none => false
/-- the operations that only read -/
def wq (X : Ctx) (s : List Ch) (t : Tm) (op : Op) (q : TV → Prop) : Prop := match op with
  | .move x | .assign x => tvk s t x q
  | .pick c a b => val s t c fun cv => match cv with
    | .bool b' => ifb (tvk s t a q) (tvk s t b q) b'
    | _ => False
  | .load T a => tvk s t a fun tv => match tv with
    | .bx i off => match sget s i with
      | some (.box _ cs _) => loadBox X T cs off q
      | _ => False
    | .v p => NeedQ X.P s (Instr.loadAt T p) q
    | _ => False
  | .nilCheck x => tvk s t x fun tv => match tv with
    | .bx i off => q (.bx i off)
    | .v (.pointer (some p)) => q (.v (.pointer (some p)))
    | _ => False
  | .binOp o ty x y _ => val s t x fun a => val s t y fun b => wbin X.P s o ty x y a b q
  | .unOp o _ x => val s t x fun a => match o, a with
    | .not, .bool b => q (.v (.bool (!b)))
    | .neg, .int k n => NeedW k (0 - n) fun z => q (.v (.int k z))
    | o, a => NeedQ X.P s (Op.unary o a) q
  | .convert S T x => val s t x fun a => match a, tget X.tt S, tget X.tt T with
    | .int _ n, some ⟨.int _, _, _, _⟩, some ⟨.int k, _, _, _⟩ => NeedW k n fun z => q (.v (.int k z))
    | a, _, _ => NeedQ X.P s (convert S T a) q
  | .fieldAddr S x f => tvk s t x fun tv => match tget X.tt S with
    | some ⟨.st fs, _, _, _⟩ => match lget fs f with
      | some (fo, ft) => match tget X.tt ft with
        | some ⟨_, .succ _, _, _⟩ => match tv with
          | .bx i off => q (.bx i (off + fo))
          | .v (.pointer (some ⟨b, off, none⟩)) => q (.v (.pointer (some ⟨b, off + fo, none⟩)))
          | _ => False
        | _ => False
      | none => False
    | _ => False
  | .field S x f => val s t x fun a => match a, tget X.tt S with
    | .agg ⟨cs⟩, some ⟨.st fs, _, _, _⟩ => match lget fs f with
      | some (fo, ft) => loadBox X ft cs fo q
      | none => False
    | _, _ => False
  | .indexAddr S x ix => val s t ix fun iv => tvk s t x fun tv => match tget X.tt S with
    | some ⟨.ar len e, _, _, _⟩ => match tget X.tt e, iv with
      | some te, .int _ n => match tv with
        | .bx i off => match n with
          | .ofNat m => match Nat.blt m len with
            | true => q (.bx i (off + m * te.size))
            | false => valk s tv fun a => NeedQ X.P s (Instr.indexAt S a iv) q
          | _ => valk s tv fun a => NeedQ X.P s (Instr.indexAt S a iv) q
        | tv => valk s tv fun a => NeedQ X.P s (Instr.indexAt S a iv) q
      | _, _ => False
    | _ => valk s tv fun a => NeedQ X.P s (Instr.indexAt S a iv) q
  | .index S x ix => val s t ix fun iv => val s t x fun a => NeedQ X.P s (Instr.index S a iv) q
  | .extract x i => val s t x fun a => match a with
    | .tuple ⟨vs⟩ => match lget vs i with | some v => q (.v v) | none => False
    | _ => False
  | .slice S x lo hi mx => val s t x fun a => vals s t lo.toList fun lo' => vals s t hi.toList fun hi' => vals s t mx.toList fun mx' =>
      NeedQ X.P s (Instr.sliceAt S a lo'.head? hi'.head? mx'.head?) q
  | .makeFunc fn first cap => vals s t first.toList fun f => vals s t cap.toList fun c => q (.v (.func fn f.toArray c.toArray))
  | .makeInterface T x => val s t x fun a => match tget X.tt T with
    | some _ => NeedQ X.P s (Instr.makeInterface T a) q
    | none => False
  | .build T ⟨parts⟩ => match tget X.tt T with
    | some ⟨.st fs, _, _, z⟩ => match known X fs with
      | false => False
      | true => wbuild s t (fun i => match lget fs i with | some (off, ft) => (match tget X.tt ft with | some tf => some (off, tf.size) | none => none) | none => none) parts z fun cs => q (.v (.agg cs.toArray))
    | some ⟨.ar _ e, _, _, z⟩ => (match tget X.tt e with | some te => wbuild s t (fun i => some (i * te.size, te.size)) parts z fun cs => q (.v (.agg cs.toArray)) | none => False)
    | _ => False
  | .call ⟨.builtin .len, ⟨[x]⟩, ⟨[T]⟩⟩ => tvk s t x fun tv => match tget X.tt T with
    | some ⟨.sl _, _, _, _⟩ => match tv with
      | .v (.slice _ n _) => q (.v (.int .i64 n))
      | .bs _ n => q (.v (.int .i64 n))
      | _ => False
    | some ⟨.str, _, _, _⟩ => match tv with
      | .v (.string b) => q (.v (.int .i64 b.size))
      | _ => False
    | _ => False
  | _ => False

def isQ : Op → Bool
  | .move _ | .assign _ | .pick _ _ _ | .load _ _ | .nilCheck _ | .binOp _ _ _ _ _ | .unOp _ _ _ | .convert _ _ _ | .fieldAddr _ _ _ | .field _ _ _
  | .indexAddr _ _ _ | .index _ _ _ | .extract _ _ | .slice _ _ _ _ _ | .makeFunc _ _ _ | .makeInterface _ _ | .build _ _ => true
  | .call ⟨.builtin .len, ⟨[_]⟩, ⟨[_]⟩⟩ => true
  | _ => false
end Go.Dw
namespace Go.Dw
open Go Go.RowKit

/-- A function that is entered, and what its call comes to. -/
def CallsE (P : Program) (f : Nat) (args : Array Value) (w : World) (R : Ending → World → Prop) : Prop :=
  (∀ w, (callFunc f args).run P w = .ok (.enter f args) w) ∧ Calls P f args w R

inductive NeedA (P : Program) (s : List Ch) (tys : Array TypeId) (ty : Nat) (x : Value) (y : TV) (q : TV → List Ch → Prop) : Prop
  | mk (yv : Value) (hy : y.val s = some yv) (h : NeedE P s (Builtin.append_ tys ty #[x, yv]) q)
/-- a call of a Go function -/
inductive NeedF (P : Program) (s : List Ch) (f : Nat) (args : List Value) (q : TV → List Ch → Prop) : Prop
  | mk (h : ∀ w0 w, Ok w0 s w → CallsE P f args.toArray w fun e w' => ∃ v s', e = .returned v ∧ Ok w0 s' w' ∧ Keep s s' ∧ q (.v v) s')
/-- a call of an interface's method -/
inductive NeedM (P : Program) (s : List Ch) (v : Value) (m : String) (args : List Value) (q : TV → List Ch → Prop) : Prop
  | mk (h : ∀ w0 w, Ok w0 s w → ∃ f fa, (callMethod v m args.toArray).run P w = .ok (.enter f fa) w ∧ Calls P f fa w fun e w' => ∃ v s', e = .returned v ∧ Ok w0 s' w' ∧ Keep s s' ∧ q (.v v) s')

def allOne : List Value → Bool
  | [] => true
  | v :: r => match v.oneCell' with | true => allOne r | false => false
def repL : Nat → List Value → List Value
  | 0, _ => []
  | n + 1, z => z ++ repL n z

/-- the operations that write or make memory -/
def we (X : Ctx) (s : List Ch) (t : Tm) (ty : Nat) (op : Op) (q : TV → List Ch → Prop) : Prop := match op with
  | .alloc T => match tget X.tt T with
    | some ti => ∀ b, q (.bx s.length 0) (s ++ [.box b ti.zero T])
    | none => False
  | .box T x => val s t x fun v => cellsOf v fun cs => ∀ b, q (.bx s.length 0) (s ++ [.box b cs T])
  | .store T a x => tvk s t a fun tv => val s t x fun v => match tv with
    | .bx i off => match sget s i with
      | some (.box b cs T') => cellsOf v fun vs => match allOne vs with
        | true => match tget X.tt T with
          | some ti => match Nat.beq (lenL vs) ti.size with
            | true => match putL cs off vs with
              | some cs' => forceL cs' fun cs' => q (.v undef) (sset s i (.box b cs' T'))
              | none => False
            | false => False
          | none => False
        | false => False
      | _ => False
    | .v p => NeedU X.P s (Instr.storeAt T p v) fun s' => q (.v undef) s'
    | _ => False
  | .buildSlice T n ⟨parts⟩ => match tget X.tt T with
    | some ⟨.sl e, _, _, _⟩ => match tget X.tt e with
      | some te => match Nat.ble (n * te.size) 16777216 with
        | true => wbuild s t (fun i => some (i * te.size, te.size)) parts (repL n te.zero) fun cs => ∀ b, q (.bs s.length n) (s ++ [.box b cs e])
        | false => False
      | none => False
    | _ => False
  | .makeSlice T l c => val s t l fun l => val s t c fun c => NeedE X.P s (Instr.makeSlice T l c) q
  | .range T x => val s t x fun v => NeedE X.P s (Instr.range T v) q
  | .next x b => val s t x fun v => NeedE X.P s (Instr.next v b ty) q
  | .call ⟨.builtin .append, ⟨[x, y]⟩, tys⟩ => val s t x fun x => tvk s t y fun y => NeedA X.P s tys ty x y q
  | .call ⟨.builtin b, ⟨args⟩, tys⟩ => vals s t args fun args => match b with
    | .copy => NeedE X.P s (Builtin.copy_ tys ty args.toArray) q
    | .min => NeedE X.P s (Builtin.min_ tys ty args.toArray) q
    | .max => NeedE X.P s (Builtin.max_ tys ty args.toArray) q
    | .clear => NeedE X.P s (Builtin.clear_ tys ty args.toArray) q
    | .cap => NeedE X.P s (Builtin.cap_ tys ty args.toArray) q
    | _ => False
  | .call ⟨.value f, ⟨args⟩, _⟩ => tvk s t f fun fv => vals s t args fun args => match fv with
    | .v (.func (.func f) ⟨first⟩ ⟨cap⟩) => forceL (first ++ args ++ cap) fun args => NeedF X.P s f args q
    | _ => False
  | .call ⟨.invoke r m, ⟨args⟩, _⟩ => val s t r fun v => vals s t args fun args => NeedM X.P s v m args q
  | _ => False

def putk (n : Nat) (t : Tm) (dst : Option Nat) (tv : TV) (q : Tm → Prop) : Prop := match dst with
  | none => q t
  | some d => match Nat.blt d n with | true => q ((d, tv) :: t) | false => False
def wop (X : Ctx) (s : List Ch) (t : Tm) (o : Oper) (q : TV → List Ch → Prop) : Prop := match isQ o.op with
  | true => wq X s t o.op fun tv => q tv s
  | false => we X s t o.type o.op q
/-- the guard's slot -/
def gslot (all : List Oper) (j : Nat) : Option Nat := match lget all j with | some o => o.dst | none => none
/-- Is it wanted? The guard's slot is known on either way. -/
def wguard (all : List Oper) (o : Oper) (t : Tm) (yes no : Tm → Prop) : Prop := match o.guard with
  | none => yes t
  | some (j, want) => match gslot all j with
    | some d => match aget t d with
      | some (.v (.bool b)) => ifb (match want with | true => yes ((d, .v (.bool true)) :: t) | false => no ((d, .v (.bool true)) :: t))
          (match want with | true => no ((d, .v (.bool false)) :: t) | false => yes ((d, .v (.bool false)) :: t)) b
      | some (.v (.tuple _)) => no t
      | _ => False
    | none => False
def wops (X : Ctx) (all : List Oper) : List Oper → (Tm → List Ch → Prop) → Tm → List Ch → Prop
  | [], q, t, s => q t s
  | o :: r, q, t, s => wguard all o t
      (fun t => wop X s t o fun tv s' => putk X.n t o.dst tv fun t' => wops X all r q t' s')
      (fun t => putk X.n t o.dst (.v undef) fun t' => wops X all r q t' s)

inductive Ex where | normal | exit (id : Nat) | ret
/-- t', s' say no more than t, s. -/
def Fr (n : Nat) (t : Tm) (s : List Ch) (a : Act) : Prop := a.tmps.size = n ∧ a.defers = [] ∧ ∀ i tv, aget t i = some tv → ∃ v, tv.val s = some v ∧ a.tmps[i]? = some v
def Ent (t : Tm) (s : List Ch) (t' : Tm) (s' : List Ch) : Prop := ∀ n w0 w a, Ok w0 s w → Fr n t s a → Ok w0 s' w ∧ Fr n t' s' a
/-- there is a world that holds the chunks s -/
def Sat (s : List Ch) : Prop := ∃ w0 w, Ok w0 s w
inductive NeedL (body : (Ex → Tm → List Ch → Prop) → Tm → List Ch → Prop) (Q : Ex → Tm → List Ch → Prop) (t : Tm) (s : List Ch) : Prop
  | mkS (G : Type) (I : G → Tm) (S : G → List Ch) (R : G → Prop) (m : G → Nat) (g0 : G) (h0 : R g0) (e0 : Ent t s (I g0) (S g0))
      (round : ∀ g, R g → Sat (S g) → body (fun e t' s' => match e with | .normal => ∃ g', R g' ∧ m g' < m g ∧ Ent t' s' (I g') (S g') | e => Q e t' s') (I g) (S g))
theorem NeedL.mk {body : (Ex → Tm → List Ch → Prop) → Tm → List Ch → Prop} {Q : Ex → Tm → List Ch → Prop} {t : Tm} {s : List Ch} (G : Type) (I : G → Tm) (S : G → List Ch) (R : G → Prop) (m : G → Nat) (g0 : G) (h0 : R g0) (e0 : Ent t s (I g0) (S g0))
    (round : ∀ g, R g → body (fun e t' s' => match e with | .normal => ∃ g', R g' ∧ m g' < m g ∧ Ent t' s' (I g') (S g') | e => Q e t' s') (I g) (S g)) : NeedL body Q t s :=
  NeedL.mkS G I S R m g0 h0 e0 fun g h _ => round g h
/-- An order of a region that draws: take (an operation that only reads), run (the one that may come up). -/
inductive NeedD (X : Ctx) (ops : List Oper) (Q : Tm → List Ch → Prop) (t : Tm) (s : List Ch) : Prop
  | mk (h : ∀ w0 w a (Q' : Exit → Act → World → Prop), Ok w0 s w → Fr X.n t s a → (∀ t s a w, Ok w0 s w → Fr X.n t s a → Q t s → Q' .normal a w) →
      (∀ c a w, ¬ Q' (.panic c) a w) → wpAny X.P .any ops.toArray Q' ops.toArray.size (Array.replicate ops.toArray.size false) a { w with drawn := w.drawn + 1 })

def WP (X : Ctx) : Code → (Ex → Tm → List Ch → Prop) → Tm → List Ch → Prop
  | .skip, Q, t, s => Q .normal t s
  | .label _, Q, t, s => Q .normal t s
  | .seq a b, Q, t, s => WP X a (fun e t s => match e with | .normal => WP X b Q t s | .exit i => Q (.exit i) t s | .ret => Q .ret t s) t s
  | .cond c x y, Q, t, s => tvk s t c fun tv => match tv with
    | .v (.bool b) => ifb (WP X x Q t s) (WP X y Q t s) b
    | _ => False
  | .block id c, Q, t, s => WP X c (fun e t s => match e with
    | .exit j => match Nat.beq j id with | true => Q .normal t s | false => Q (.exit j) t s
    | .normal => Q .normal t s
    | .ret => Q .ret t s) t s
  | .loop c, Q, t, s => NeedL (fun Q t s => WP X c Q t s) Q t s
  | .exit id, Q, t, s => Q (.exit id) t s
  | .ret, Q, t, s => Q .ret t s
  | .region _ ⟨ops⟩ false, Q, t, s => wops X ops ops (Q .normal) t s
  | .region _ ⟨ops⟩ true, Q, t, s => NeedD X ops (Q .normal) t s
  | _, _, _, _ => False
end Go.Dw
namespace Go.Dw
open Go Go.RowKit

theorem forceL_eq : ∀ (l : List Value) (q : List Value → Prop), forceL l q = q l
  | [], _ => rfl
  | v :: r, q => by simp only [forceL]; rw [forceL_eq r]
theorem lenL_eq : ∀ l, lenL l = l.length
  | [] => rfl
  | _ :: r => by simp [lenL, lenL_eq r]
theorem takeL_eq : ∀ n l, takeL n l = l.take n
  | 0, _ => by simp [takeL]
  | _ + 1, [] => by simp [takeL]
  | n + 1, _ :: r => by simp [takeL, takeL_eq n r]
theorem dropL_eq : ∀ n l, dropL n l = l.drop n
  | 0, _ => by simp [dropL]
  | _ + 1, [] => by simp [dropL]
  | n + 1, _ :: r => by simp [dropL, dropL_eq n r]
theorem putL_eq : ∀ (l : List Value) (n : Nat) (vs l' : List Value), putL l n vs = some l' → n + vs.length ≤ l.length ∧ l' = l.take n ++ vs ++ l.drop (n + vs.length)
  | l, 0, [], l', h => by
    have : l = l' := by cases l <;> simpa [putL] using h
    subst this; simp
  | [], 0, _ :: _, _, h => by simp [putL] at h
  | [], _ + 1, [], _, h => by simp [putL] at h
  | [], _ + 1, _ :: _, _, h => by simp [putL] at h
  | c :: r, 0, v :: vs, l', h => by
    cases hp : putL r 0 vs with
    | none => simp [putL, hp] at h
    | some x =>
      simp [putL, hp] at h; subst h
      have := putL_eq r 0 vs x hp
      obtain ⟨h1, h2⟩ := this
      subst h2
      simp at h1 ⊢
      omega
  | c :: r, n + 1, vs, l', h => by
    cases hp : putL r n vs with
    | none => simp [putL, hp] at h
    | some x =>
      simp [putL, hp] at h; subst h
      obtain ⟨h1, h2⟩ := putL_eq r n vs x hp
      subst h2
      refine ⟨by simp; omega, ?_⟩
      rw [show n + 1 + vs.length = (n + vs.length) + 1 by omega]
      simp

theorem TV.valk {s : List Ch} {tv : TV} {q : Value → Prop} (h : Dw.valk s tv q) : ∃ v, tv.val s = some v ∧ q v := by
  unfold Dw.valk at h
  cases tv with
  | v x => exact ⟨x, rfl, h⟩
  | bx i off =>
    simp only [TV.val]
    cases hs : sget s i with
    | none => simp [hs] at h
    | some c => cases c <;> simp [hs] at h ⊢; exact h
  | bs i n =>
    simp only [TV.val]
    cases hs : sget s i with
    | none => simp [hs] at h
    | some c => cases c <;> simp [hs] at h ⊢; exact h

section
variable {n : Nat} {t : Tm} {s : List Ch} {a : Act}

/-- what the slots hold, as far as it has a meaning in s -/
def Frw (t : Tm) (s : List Ch) (a : Act) : Prop := ∀ i tv v, aget t i = some tv → tv.val s = some v → a.tmps[i]? = some v
theorem Fr.w (hf : Fr n t s a) : Frw t s a := fun i tv v h1 h2 => by
  obtain ⟨v', h3, h4⟩ := hf.2.2 i tv h1
  rw [h2] at h3; cases h3; exact h4
theorem okv_sound {tv : TV} {p : Prop} (h : okv s tv p) : (∃ v, tv.val s = some v) ∧ p := by
  unfold okv at h
  cases tv with
  | v x => exact ⟨⟨x, rfl⟩, h⟩
  | bx i off =>
    simp only [TV.val]
    cases hs : sget s i with
    | none => simp [hs] at h
    | some c => cases c <;> simp [hs] at h ⊢; exact h
  | bs i n =>
    simp only [TV.val]
    cases hs : sget s i with
    | none => simp [hs] at h
    | some c => cases c <;> simp [hs] at h ⊢; exact h

theorem Frw.tvk (hf : Frw t s a) {x : Operand} {q : TV → Prop} (h : Dw.tvk s t x q) : ∃ tv, tv.val s = some (a.eval x) ∧ q tv := by
  unfold Dw.tvk at h
  cases ho : opv t x with
  | none => simp [ho] at h
  | some tv =>
    simp only [ho] at h
    obtain ⟨⟨v, h1⟩, h2⟩ := okv_sound h
    refine ⟨tv, ?_, h2⟩
    rw [h1]
    cases x with
    | tmp i => have := hf i tv v ho h1; simp [Act.eval, this]
    | const v => simp [opv] at ho; subst ho; simpa [TV.val, Act.eval] using h1.symm
    | global g => simp [opv] at ho; subst ho; simpa [TV.val, Act.eval] using h1.symm
    | func f => simp [opv] at ho; subst ho; simpa [TV.val, Act.eval] using h1.symm

theorem Frw.val (hf : Frw t s a) {x : Operand} {q : Value → Prop} (h : Dw.val s t x q) : q (a.eval x) := by
  obtain ⟨tv, h1, h2⟩ := hf.tvk h
  obtain ⟨v, h3, h4⟩ := TV.valk h2
  rw [h1] at h3
  cases h3
  exact h4

theorem Frw.vals (hf : Frw t s a) : ∀ {xs : List Operand} {q : List Value → Prop}, Dw.vals s t xs q → q (xs.map a.eval)
  | [], _, h => h
  | x :: xs, q, h => Frw.vals hf (xs := xs) (q := fun vs => q (a.eval x :: vs)) (Frw.val hf (x := x) (q := fun v => Dw.vals s t xs fun vs => q (v :: vs)) h)

theorem aget_cons (d : Nat) (tv : TV) (t : Tm) (i : Nat) : aget ((d, tv) :: t) i = if d = i then some tv else aget t i := by
  simp only [aget]
  by_cases h : d = i
  · subst h; simp
  · have : Nat.beq d i = false := by cases e : Nat.beq d i with
      | false => rfl
      | true => exact absurd (Nat.eq_of_beq_eq_true e) h
    simp [this, h]

theorem Fr.keep {s' : List Ch} (hf : Fr n t s a) (hk : Keep s s') : Fr n t s' a :=
  ⟨hf.1, hf.2.1, fun i tv h => let ⟨v, h1, h2⟩ := hf.2.2 i tv h; ⟨v, hk _ _ h1, h2⟩⟩

theorem Fr.put (hf : Fr n t s a) {d : Nat} {tv : TV} {v : Value} (hv : tv.val s = some v) (hd : d < n) : Fr n ((d, tv) :: t) s (a.put (some d) v) := by
  refine ⟨by simp [Act.put, hf.1], hf.2.1, fun i tv' h => ?_⟩
  rw [aget_cons] at h
  split at h
  · rename_i hi; subst hi; cases h
    exact ⟨v, hv, by simp [Act.put, hf.1, hd]⟩
  · rename_i hi
    obtain ⟨v', h1, h2⟩ := hf.2.2 i tv' h
    exact ⟨v', h1, by simp [Act.put, Array.getElem?_setIfInBounds_ne hi, h2]⟩

theorem Fr.putk (hf : Fr n t s a) {dst : Option Nat} {tv : TV} {v : Value} (hv : tv.val s = some v) {q : Tm → Prop} (h : Dw.putk n t dst tv q) : ∃ t', q t' ∧ Fr n t' s (a.put dst v) := by
  cases dst with
  | none => exact ⟨t, h, hf⟩
  | some d =>
    simp only [Dw.putk] at h
    cases hd : Nat.blt d n with
    | false => simp [hd] at h
    | true =>
      simp only [hd] at h
      exact ⟨_, h, hf.put hv (by simpa [Nat.blt_eq] using hd)⟩

/-- a slot's value is set to what it is. -/
theorem Fr.know (hf : Fr n t s a) {d : Nat} {b b' : Bool} (h : aget t d = some (.v (.bool b))) (hb : b = b') : Fr n ((d, .v (.bool b')) :: t) s a := by
  subst hb
  refine ⟨hf.1, hf.2.1, fun i tv' h' => ?_⟩
  rw [aget_cons] at h'
  split at h'
  · rename_i hi; subst hi; cases h'; exact hf.2.2 _ _ h
  · exact hf.2.2 _ _ h'

end

theorem Keep.refl (s : List Ch) : Keep s s := fun _ _ h => h
theorem Keep.trans {a b c : List Ch} (h : Keep a b) (k : Keep b c) : Keep a c := fun _ _ e => k _ _ (h _ _ e)
theorem Keep.app (s cs : List Ch) : Keep s (s ++ cs) := by
  intro tv v h
  have hl : ∀ i c, sget s i = some c → sget (s ++ cs) i = some c := fun i c e => by
    rw [sget_append, if_pos]
    · exact e
    · rw [sget_eq] at e; exact (List.getElem?_eq_some_iff.1 e).1
  cases tv with
  | v x => exact h
  | bx i off =>
    simp only [TV.val] at h ⊢
    cases hs : sget s i with
    | none => simp [hs] at h
    | some c => rw [hl i c hs]; simpa [hs] using h
  | bs i n =>
    simp only [TV.val] at h ⊢
    cases hs : sget s i with
    | none => simp [hs] at h
    | some c => rw [hl i c hs]; simpa [hs] using h
/-- where chunk i keeps its block, or is no box -/
theorem Keep.set {s : List Ch} {i : Nat} {c c' : Ch} (e : sget s i = some c) (h : ∀ b cs T, c = .box b cs T → ∃ cs' T', c' = .box b cs' T') : Keep s (sset s i c') := by
  intro tv v hv
  have key : ∀ j, (match sget s j with | some (.box b _ _) => some b | _ => none) = none ∨ (match sget (sset s i c') j with | some (.box b _ _) => some b | _ => none) = (match sget s j with | some (.box b _ _) => some b | _ => none) := by
    intro j
    rw [sget_sset]
    by_cases hij : i = j
    · subst hij
      rw [if_pos rfl, e]
      cases c with
      | hp h => left; rfl
      | box b cs T => right; obtain ⟨cs', T', rfl⟩ := h b cs T rfl; rfl
    · right; rw [if_neg hij]
  cases tv with
  | v x => exact hv
  | bx j off =>
    simp only [TV.val] at hv ⊢
    have := key j
    cases hs : sget s j with
    | none => simp [hs] at hv
    | some d =>
      cases d with
      | hp h => simp [hs] at hv
      | box b cs T =>
        simp only [hs] at this hv ⊢
        cases hs' : sget (sset s i c') j with
        | none => simp [hs'] at this
        | some d' => cases d' <;> simp [hs'] at this ⊢; subst this; simpa using hv
  | bs j m =>
    simp only [TV.val] at hv ⊢
    have := key j
    cases hs : sget s j with
    | none => simp [hs] at hv
    | some d =>
      cases d with
      | hp h => simp [hs] at hv
      | box b cs T =>
        simp only [hs] at this hv ⊢
        cases hs' : sget (sset s i c') j with
        | none => simp [hs'] at this
        | some d' => cases d' <;> simp [hs'] at this ⊢; subst this; simpa using hv

theorem cellsOf_sound {v : Value} {q : List Value → Prop} (h : cellsOf v q) : q v.cells.toList := by
  cases v <;> simp only [cellsOf, Value.cells] at h ⊢ <;> first | exact h | skip
  · rename_i cs
    obtain ⟨cs⟩ := cs
    rw [forceL_eq] at h
    exact h

theorem Addr.add_mk (b off j : Nat) : (⟨b, off, none⟩ : Addr).add j = ⟨b, off + j, none⟩ := by
  unfold Addr.add; split <;> simp_all
theorem box_cell {s : List Ch} {w : World} (hm : Mem s w) {i b : Nat} {cs : List Value} {T : Nat} (h : sget s i = some (.box b cs T)) {j : Nat} {v : Value} (hj : cs[j]? = some v) : w.cell? ⟨b, j, none⟩ = some v := by
  have h1 := hm i _ h b _ (by simp [Ch.h, Hp.one]; rfl)
  simp [World.cell?, h1, hj]

section
variable {X : Ctx}
theorem Good.und (hX : X.Good) {t : Nat} {i : TI} (h : tget X.tt t = some i) : GoodT X.P t i := hX.2 t i h
theorem GoodT.agg {P : Program} {t : Nat} {i : TI} (h : GoodT P t i) (w : World) : (isAgg t).run P w = .ok i.agg w := by
  obtain ⟨_, hk⟩ := h
  have run_und : ∀ d, P.underlying t = some d → (underlying t).run P w = .ok d w := fun d hd => by simp [underlying, hd]
  unfold isAgg
  cases hi : i.k <;> simp only [hi, GoodK] at hk <;> simp only [TI.agg, hi]
  case st fs => obtain ⟨fields, h1, _⟩ := hk; simp [run_und _ h1]
  case other =>
    obtain ⟨d, h1, h2⟩ := hk
    simp [run_und _ h1]
    cases d <;> simp at h2 ⊢
  all_goals simp [run_und _ hk]
theorem GoodT.size {P : Program} {t : Nat} {i : TI} (h : GoodT P t i) (w : World) : (sizeOf t).run P w = .ok i.size w := by
  obtain ⟨⟨inf, h1, h2, _⟩, _⟩ := h
  simp [sizeOf, typeInfo, h1, h2]
theorem GoodT.zero {P : Program} {t : Nat} {i : TI} (h : GoodT P t i) (w : World) : ∃ z, (zeroValue t).run P w = .ok z w ∧ z.cells = i.zero.toArray := by
  obtain ⟨⟨inf, h1, h2, h3, z, h4, h5, _⟩, _⟩ := h
  exact ⟨z, by simp [zeroValue, typeInfo, h1, h4], h5⟩
theorem GoodT.zlen {P : Program} {t : Nat} {i : TI} (h : GoodT P t i) : i.zero.length = i.size := by
  obtain ⟨⟨inf, h1, h2, h3, z, h4, h5, h6⟩, _⟩ := h
  exact h6

theorem run_loadBox {s : List Ch} (hX : X.Good) {i b off T T' : Nat} {cs : List Value} (hs : sget s i = some (.box b cs T')) {q : TV → Prop} (h : loadBox X T cs off q) :
    ∃ v, q (.v v) ∧ ∀ w, Mem s w → (loadVar T ⟨b, off, none⟩).run X.P w = .ok v w := by
  unfold loadBox at h
  cases ht : tget X.tt T with
  | none => simp [ht] at h
  | some ti =>
    simp only [ht] at h
    have hg := Good.und hX ht
    cases ha : ti.agg with
    | false =>
      simp only [ha] at h
      rw [lget_eq] at h
      cases hc : cs[off]? with
      | none => simp [hc] at h
      | some v =>
        simp only [hc] at h
        refine ⟨v, h, fun w hm => ?_⟩
        have := box_cell hm hs hc
        simp [loadVar, hg.agg, ha, this]
    | true =>
      simp only [ha] at h
      cases hb : Nat.ble (off + ti.size) (lenL cs) with
      | false => simp [hb] at h
      | true =>
        simp only [hb] at h
        rw [forceL_eq, takeL_eq, dropL_eq] at h
        rw [lenL_eq] at hb
        have hb' : off + ti.size ≤ cs.length := Nat.le_of_ble_eq_true hb
        refine ⟨_, h, fun w hm => ?_⟩
        have hl : (List.take ti.size (List.drop off cs)).length = ti.size := by simp; omega
        have := run_loadCells_list (P := X.P) w ⟨b, off, none⟩ (List.take ti.size (List.drop off cs)) (fun j v hj => by
          rw [Addr.add_mk]
          refine box_cell hm hs ?_
          rw [List.getElem?_take] at hj
          split at hj
          · simpa using hj
          · cases hj)
        rw [hl] at this
        simp [loadVar, hg.agg, ha, hg.size, this]
/-- the same of an aggregate value's part -/
theorem run_partBox (hX : X.Good) {off T : Nat} {cs : List Value} {q : TV → Prop} (h : loadBox X T cs off q) :
    ∃ v, q (.v v) ∧ ∀ w, (part T cs.toArray off).run X.P w = .ok v w := by
  unfold loadBox at h
  cases ht : tget X.tt T with
  | none => simp [ht] at h
  | some ti =>
    simp only [ht] at h
    have hg := Good.und hX ht
    cases ha : ti.agg with
    | false =>
      simp only [ha] at h
      rw [lget_eq] at h
      cases hc : cs[off]? with
      | none => simp [hc] at h
      | some v =>
        simp only [hc] at h
        exact ⟨v, h, fun w => by simp [part, hg.agg, ha, hc]⟩
    | true =>
      simp only [ha] at h
      cases hb : Nat.ble (off + ti.size) (lenL cs) with
      | false => simp [hb] at h
      | true =>
        simp only [hb] at h
        rw [forceL_eq, takeL_eq, dropL_eq] at h
        refine ⟨_, h, fun w => ?_⟩
        simp [part, hg.agg, ha, hg.size, List.extract_toArray, List.extract_eq_take_drop]
end
end Go.Dw
namespace Go.Dw
open Go Go.RowKit

/-- what an operation that only reads comes to -/
def QOk (P : Program) (s : List Ch) (e : Sem Next) (q : TV → Prop) : Prop := ∃ tv v, tv.val s = some v ∧ q tv ∧ ∀ w, Mem s w → e.run P w = .ok (.value v) w
theorem NeedQ.ok {P : Program} {s : List Ch} {e : Sem Value} {q : TV → Prop} (h : NeedQ P s e q) : QOk P s (do pure (.value (← e))) q := by
  obtain ⟨v, h1, h2⟩ := h
  exact ⟨.v v, v, rfl, h2, fun w hw => by simp [h1 w hw]⟩
theorem QOk.mono {P : Program} {s : List Ch} {e e' : Sem Next} {q : TV → Prop} (h : QOk P s e q) (he : ∀ w, e'.run P w = e.run P w) : QOk P s e' q := by
  obtain ⟨tv, v, h1, h2, h3⟩ := h
  exact ⟨tv, v, h1, h2, fun w hw => by rw [he, h3 w hw]⟩

theorem eqGuard_int {P : Program} {w : World} (op : BinOp) (t : TypeId) (x y : Operand) (k j : IntKind) (a b : Int) : (eqGuard op t x y (.int k a) (.int j b)).run P w = .ok () w := by
  unfold eqGuard; split <;> rfl

theorem wint_ok {P : Program} {s : List Ch} {op : BinOp} {ty : Nat} {i : IntKind} {x y : Int} {q : TV → Prop} (h : wint P s op ty i x y q) :
    QOk P s (do pure (.value (← binOp op ty (.int i x) (.int i y)))) q := by
  cases op <;> simp only [wint] at h
  case add => obtain ⟨z, h1, h2⟩ := h; exact ⟨_, _, rfl, h2, fun w _ => by simp [binOp, Op.intArith, h1]⟩
  case sub => obtain ⟨z, h1, h2⟩ := h; exact ⟨_, _, rfl, h2, fun w _ => by simp [binOp, Op.intArith, h1]⟩
  case mul => obtain ⟨z, h1, h2⟩ := h; exact ⟨_, _, rfl, h2, fun w _ => by simp [binOp, Op.intArith, h1]⟩
  case eql => exact ⟨_, _, rfl, h, fun w _ => by simp [binOp, Op.intCmp]; rfl⟩
  case neq => exact ⟨_, _, rfl, h, fun w _ => by simp [binOp, Op.intCmp, bne]; rfl⟩
  case lss => exact ⟨_, _, rfl, h, fun w _ => by simp [binOp, Op.intCmp]⟩
  case leq => exact ⟨_, _, rfl, h, fun w _ => by simp [binOp, Op.intCmp]⟩
  case gtr => exact ⟨_, _, rfl, h, fun w _ => by simp [binOp, Op.intCmp]⟩
  case geq => exact ⟨_, _, rfl, h, fun w _ => by simp [binOp, Op.intCmp]⟩
  all_goals exact h.ok

theorem wbin_ok {P : Program} {s : List Ch} {op : BinOp} {ty : Nat} {xo yo : Operand} {a b : Value} {q : TV → Prop} (h : wbin P s op ty xo yo a b q) :
    QOk P s (do pure (.value (← (do eqGuard op ty xo yo a b; binOp op ty a b)))) q := by
  have gen : NeedQ P s (do eqGuard op ty xo yo a b; binOp op ty a b) q → QOk P s (do pure (.value (← (do eqGuard op ty xo yo a b; binOp op ty a b)))) q := fun h => h.ok
  cases a <;> cases b <;> simp only [wbin] at h <;> try exact gen h
  rename_i i x j y
  by_cases hij : i = j
  · subst hij
    simp only [decide_true] at h
    exact (wint_ok h).mono fun w => by simp [eqGuard_int]
  · simp only [hij, decide_false] at h
    exact gen h

theorem wbuild_ok {t : Tm} {s : List Ch} {a : Act} (hf : Frw t s a) {place : Nat → Option (Nat × Nat)} :
    ∀ {parts : List (Nat × Operand)} {cs : List Value} {q : List Value → Prop}, wbuild s t place parts cs q →
    ∃ cs' : List Value, q cs' ∧ Instr.fill place cs.toArray (parts.map fun p => (p.1, a.eval p.2)) = some cs'.toArray
  | [], cs, q, h => by simp only [wbuild, forceL_eq] at h; exact ⟨cs, h, rfl⟩
  | (i, x) :: r, cs, q, h => by
    simp only [wbuild] at h
    have h1 := cellsOf_sound (hf.val h)
    cases hp : place i with
    | none => simp [hp] at h1
    | some os =>
      obtain ⟨off, size⟩ := os
      simp only [hp] at h1
      cases hb : Nat.beq (lenL (a.eval x).cells.toList) size with
      | false => simp [hb] at h1
      | true =>
        simp only [hb] at h1
        cases hl : putL cs off (a.eval x).cells.toList with
        | none => simp [hl] at h1
        | some cs' =>
          simp only [hl] at h1
          obtain ⟨cs'', hq, hfill⟩ := wbuild_ok hf h1
          refine ⟨cs'', hq, ?_⟩
          have hsz : (a.eval x).cells.size = size := by
            have := Nat.eq_of_beq_eq_true hb
            rw [lenL_eq] at this
            simpa using this
          obtain ⟨h2, h3⟩ := putL_eq _ _ _ _ hl
          simp only [Array.length_toList] at h2 h3
          simp only [List.map_cons, Instr.fill, hp]
          rw [if_neg (by simp [hsz]; omega), ← hfill]
          congr 1
          -- the fold of stores is the splice
          have key : ∀ (vs : List Value) (k : Nat) (l : List Value), off + k + vs.length ≤ l.length →
              (vs.zipIdx k).foldl (fun (cs : Array Value) (p : Value × Nat) => cs.setIfInBounds (off + p.2) p.1) l.toArray = (l.take (off + k) ++ vs ++ l.drop (off + k + vs.length)).toArray := by
            intro vs
            induction vs with
            | nil => intro k l _; simp
            | cons v vs ih =>
              intro k l hle
              simp only [List.length_cons] at hle
              simp only [List.zipIdx_cons, List.foldl_cons, List.setIfInBounds_toArray]
              rw [ih (k + 1) _ (by simp; omega)]
              congr 1
              apply List.ext_getElem?
              intro j
              simp only [List.append_assoc, List.getElem?_append, List.length_take, List.length_set, List.getElem?_take, List.getElem?_drop, List.getElem?_set, List.length_cons, List.getElem?_cons]
              have e1 : min (off + (k + 1)) l.length = off + k + 1 := by omega
              have e2 : min (off + k) l.length = off + k := by omega
              rw [e1, e2]
              by_cases c1 : j < off + k
              · simp [c1, show j < off + k + 1 by omega, show ¬ off + k = j by omega, show j < off + (k + 1) by omega]
              · by_cases c2 : j = off + k
                · subst c2; simp [show off + k < l.length by omega, show off + k < off + (k + 1) by omega]
                · have c3 : ¬ j < off + k + 1 := by omega
                  simp only [c1, c3, if_false]
                  by_cases c4 : j - (off + k + 1) < vs.length
                  · simp [c4, show j - (off + k) ≠ 0 by omega, show j - (off + k) < vs.length + 1 by omega, show j - (off + k) - 1 = j - (off + k + 1) by omega]
                  · simp only [c4, if_false, show ¬ j - (off + k) < vs.length + 1 by omega]
                    rw [if_neg (by omega)]
                    congr 1
                    omega
          have := key (a.eval x).cells.toList 0 cs (by simpa using h2)
          simp only [Nat.add_zero, Array.length_toList] at this
          rw [h3, ← this]
          simp only [← Array.foldl_toList, Array.toList_zipIdx]

section
variable {X : Ctx} {t : Tm} {s : List Ch} {a : Act}
theorem fill_build {T : Nat} {i : TI} (hg : GoodT X.P T i) {parts : List (Nat × Operand)} {cs : List Value} {place : Nat → Option (Nat × Nat)}
    (hpl : (∃ fs, i.k = .st fs ∧ place = fun j => match lget fs j with | some (off, ft) => (match tget X.tt ft with | some tf => some (off, tf.size) | none => none) | none => none) ∨
      (∃ m e te, i.k = .ar m e ∧ tget X.tt e = some te ∧ place = fun j => some (j * te.size, te.size)))
    (hX : X.Good) (hfs : ∀ fs, i.k = .st fs → ∀ f ∈ fs, (tget X.tt f.2).isSome = true)
    (h : Instr.fill place i.zero.toArray (parts.map fun p => (p.1, a.eval p.2)) = some cs.toArray) :
    ∀ w, (Instr.build T ((parts.map fun p => (p.1, a.eval p.2)).toArray)).run X.P w = .ok (.agg cs.toArray) w := by
  intro w
  obtain ⟨z, hz, hzc⟩ := hg.zero w
  unfold Instr.build
  simp only [Sem.run_bind, hz, Result.andThen_ok]
  rcases hpl with ⟨fs, hk, rfl⟩ | ⟨m, e, te, hk, hte, rfl⟩
  · have hk' := hg.2
    rw [hk] at hk'
    obtain ⟨fields, h1, h2⟩ := hk'
    have hu : (underlying T).run X.P w = .ok (.struct fields) w := by simp [underlying, h1]
    simp only [hu, Result.andThen_ok]
    have hm : ∀ (l : List Field), (∀ f : Field, f ∈ l → (tget X.tt f.type).isSome = true) → ∃ ps : List (Nat × Nat), (l.mapM (m := Sem) fun (f : Field) => do pure (f.offset, ← sizeOf f.type)).run X.P w = .ok ps w ∧
        ∀ j : Nat, ps[j]? = (match (l[j]? : Option Field) with | some f => (match tget X.tt f.type with | some tf => some (f.offset, tf.size) | none => none) | none => none) := by
      intro l
      induction l with
      | nil => intro _; exact ⟨[], by simp, fun j => by simp⟩
      | cons f l ih =>
        intro hl
        obtain ⟨ps, hp1, hp2⟩ := ih fun g hg => hl g (List.mem_cons_of_mem _ hg)
        obtain ⟨tf, htf⟩ := Option.isSome_iff_exists.1 (hl f (List.mem_cons_self))
        have := (Good.und hX htf).size w
        refine ⟨(f.offset, tf.size) :: ps, by simp only [List.mapM_cons, Sem.run_bind, this, Result.andThen_ok, Sem.run_pure, hp1], fun j => ?_⟩
        cases j with
        | zero => simp [htf]
        | succ j => simpa using hp2 j
    have hall : ∀ f : Field, f ∈ fields.toList → (tget X.tt f.type).isSome = true := by
      intro f hf
      have : (f.offset, f.type) ∈ fs := by rw [← h2]; exact List.mem_map.2 ⟨f, hf, rfl⟩
      exact hfs fs hk _ this
    obtain ⟨ps, hp1, hp2⟩ := hm fields.toList hall
    have hps : (fields.mapM (m := Sem) fun (f : Field) => do pure (f.offset, ← sizeOf f.type)).run X.P w = .ok ps.toArray w := by
      rw [Array.mapM_eq_mapM_toList]
      simp only [Sem.run_map, hp1, Result.andThen_ok]
    rw [Sem.run_bind, hps]
    simp only [Result.andThen_ok, hzc]
    have hpl : (fun i => ps.toArray[i]?) = fun j => match lget fs j with | some (off, ft) => (match tget X.tt ft with | some tf => some (off, tf.size) | none => none) | none => none := by
      funext j
      simp only [List.getElem?_toArray, hp2, lget_eq, ← h2, List.getElem?_map]
      cases fields.toList[j]? <;> simp
    rw [hpl, h]
    rfl
  · have hk' := hg.2
    rw [hk] at hk'
    have hu : (underlying T).run X.P w = .ok (.array m e) w := by simp [underlying, show X.P.underlying T = _ from hk']
    have hs := (Good.und hX hte).size w
    simp only [hu, Result.andThen_ok, Sem.run_bind, hs, hzc, h]
    rfl
end
end Go.Dw
namespace Go.Dw
open Go Go.RowKit

theorem known_sound (X : Ctx) : ∀ (fs : List (Nat × Nat)), known X fs = true → ∀ f ∈ fs, (tget X.tt f.2).isSome = true
  | [], _, f, hf => by cases hf
  | (o, ft) :: r, h, f, hf => by
    simp only [known] at h
    cases ht : tget X.tt ft with
    | none => simp [ht] at h
    | some ti =>
      simp only [ht] at h
      rcases List.mem_cons.1 hf with rfl | hf
      · simp [ht]
      · exact known_sound X r h f hf

theorem tv_bx {s : List Ch} {i off : Nat} {v : Value} (h : TV.val s (.bx i off) = some v) : ∃ b cs T, sget s i = some (.box b cs T) ∧ v = .pointer (some ⟨b, off, none⟩) := by
  simp only [TV.val] at h
  cases hs : sget s i with
  | none => simp [hs] at h
  | some c =>
    cases c with
    | hp _ => simp [hs] at h
    | box b cs T => simp [hs] at h; exact ⟨b, cs, T, rfl, h.symm⟩
theorem tv_bs {s : List Ch} {i n : Nat} {v : Value} (h : TV.val s (.bs i n) = some v) : ∃ b cs T, sget s i = some (.box b cs T) ∧ v = .slice (some ⟨b, 0, none⟩) n n := by
  simp only [TV.val] at h
  cases hs : sget s i with
  | none => simp [hs] at h
  | some c =>
    cases c with
    | hp _ => simp [hs] at h
    | box b cs T => simp [hs] at h; exact ⟨b, cs, T, rfl, h.symm⟩

section
variable {X : Ctx} {t : Tm} {s : List Ch} {a : Act}

theorem run_v {P : Program} (e : Sem Value) (w : World) (v : Value) (h : e.run P w = .ok v w) : (do pure (Next.value (← e)) : Sem Next).run P w = .ok (.value v) w := by simp [h]

theorem wq_load (hX : X.Good) (hf : Frw t s a) {o : Oper} {T : Nat} {x : Operand} (ho : o.op = .load T x) {q : TV → Prop} (h : wq X s t (.load T x) q) : QOk X.P s (execOp a.eval o) q := by
  obtain ⟨tv, h1, h2⟩ := hf.tvk h
  cases tv with
  | v p =>
    simp only [TV.val, Option.some.injEq] at h1
    subst h1
    exact (NeedQ.ok h2).mono fun w => by simp only [execOp, ho]
  | bx i off =>
    obtain ⟨b, cs, T', hs, hv⟩ := tv_bx h1
    simp only [hs] at h2
    obtain ⟨v, hq, hrun⟩ := run_loadBox hX hs h2
    refine ⟨.v v, v, rfl, hq, fun w hw => ?_⟩
    simp only [execOp, ho, hv, Instr.loadAt, Instr.sureAddr]
    exact run_v _ w _ (by simp [hrun w hw])
  | bs i m => exact h2.elim

theorem wq_fieldAddr (hX : X.Good) (hf : Frw t s a) {o : Oper} {S f : Nat} {x : Operand} (ho : o.op = .fieldAddr S x f) {q : TV → Prop} (h : wq X s t (.fieldAddr S x f) q) : QOk X.P s (execOp a.eval o) q := by
  obtain ⟨tv, h1, h2⟩ := hf.tvk h
  cases ht : tget X.tt S with
  | none => simp [ht] at h2
  | some ti =>
    obtain ⟨k, sz, by', z⟩ := ti
    cases k <;> simp only [ht] at h2
    rename_i fs
    cases hl : lget fs f with
    | none => simp [hl] at h2
    | some of =>
      obtain ⟨fo, ft⟩ := of
      simp only [hl] at h2
      cases ht2 : tget X.tt ft with
      | none => simp [ht2] at h2
      | some tf =>
        obtain ⟨kf, szf, byf, zf⟩ := tf
        cases szf with
        | zero => simp [ht2] at h2
        | succ m =>
          simp only [ht2] at h2
          obtain ⟨_, fields, hu, hfs⟩ := Good.und hX ht
          have hfld : ∃ fl : Field, fields[f]? = some fl ∧ fl.offset = fo ∧ fl.type = ft := by
            rw [lget_eq, ← hfs, List.getElem?_map] at hl
            cases hx : fields.toList[f]? with
            | none => simp [hx] at hl
            | some fl =>
              simp [hx] at hl
              exact ⟨fl, by simpa using hx, hl.1, hl.2⟩
          obtain ⟨fl, hf1, hf2, hf3⟩ := hfld
          have hsz := fun w => (Good.und hX ht2).size w
          have key : ∀ b off w, (Instr.fieldAt S (.pointer (some ⟨b, off, none⟩)) f).run X.P w = .ok (.pointer (some ⟨b, off + fo, none⟩)) w := by
            intro b off w
            have hun : (underlying S).run X.P w = .ok (.struct fields) w := by simp [underlying, hu]
            simp only [Instr.fieldAt, Sem.run_bind, hun, Result.andThen_ok, hf1, Instr.sureAddr, Sem.run_pure, fieldPlace, hf3, hsz]
            simp [Addr.add_mk, hf2]
          cases tv with
          | bx i off =>
            obtain ⟨b, cs, T', hs, hv⟩ := tv_bx h1
            refine ⟨.bx i (off + fo), .pointer (some ⟨b, off + fo, none⟩), by simp [TV.val, hs], h2, fun w _ => ?_⟩
            simp only [execOp, ho, hv]
            exact run_v _ w _ (key b off w)
          | bs i m => exact h2.elim
          | v p =>
            simp only [TV.val, Option.some.injEq] at h1
            cases p <;> try exact h2.elim
            rename_i p
            cases p with
            | none => exact h2.elim
            | some ad =>
              obtain ⟨b, off, sp⟩ := ad
              cases sp with
              | some _ => exact h2.elim
              | none =>
                refine ⟨_, _, rfl, h2, fun w _ => ?_⟩
                simp only [execOp, ho, ← h1]
                exact run_v _ w _ (key b off w)

theorem wq_indexAddr (hX : X.Good) (hf : Frw t s a) {o : Oper} {S : Nat} {x ix : Operand} (ho : o.op = .indexAddr S x ix) {q : TV → Prop} (h : wq X s t (.indexAddr S x ix) q) : QOk X.P s (execOp a.eval o) q := by
  have h0 := hf.val h
  obtain ⟨tv, h1, h2⟩ := hf.tvk h0
  have gen : valk s tv (fun a' => NeedQ X.P s (Instr.indexAt S a' (a.eval ix)) q) → QOk X.P s (execOp a.eval o) q := by
    intro hg
    obtain ⟨v, h3, h4⟩ := TV.valk hg
    rw [h1] at h3; cases h3
    exact (NeedQ.ok h4).mono fun w => by simp only [execOp, ho]
  cases ht : tget X.tt S with
  | none => simp only [ht] at h2; exact gen h2
  | some ti =>
    obtain ⟨k, sz, by', z⟩ := ti
    cases k <;> simp only [ht] at h2 <;> try exact gen h2
    rename_i len e
    cases hte : tget X.tt e with
    | none => simp [hte] at h2
    | some te =>
      simp only [hte] at h2
      cases hiv : a.eval ix <;> simp only [hiv] at h2 gen <;> try exact h2.elim
      rename_i k m
      cases tv with
      | v _ => exact gen h2
      | bs _ _ => exact gen h2
      | bx i off =>
        simp only [] at h2
        cases m with
        | negSucc _ => exact gen h2
        | ofNat m =>
          simp only [] at h2
          cases hb : Nat.blt m len with
          | false => simp only [hb] at h2; exact gen h2
          | true =>
            simp only [hb] at h2
            obtain ⟨b, cs, T', hs, hv⟩ := tv_bx h1
            have hlt : m < len := by simpa [Nat.blt_eq] using hb
            refine ⟨.bx i (off + m * te.size), .pointer (some ⟨b, off + m * te.size, none⟩), by simp [TV.val, hs], h2, fun w _ => ?_⟩
            have hu := (Good.und hX ht).2
            have hun : (underlying S).run X.P w = .ok (.array len e) w := by simp [underlying, show X.P.underlying S = _ from hu]
            have hsz := (Good.und hX hte).size w
            simp only [execOp, ho, hv, hiv]
            refine run_v _ w _ ?_
            simp only [Instr.indexAt, asIntOf, Sem.run_bind, Sem.run_pure, Result.andThen_ok, hun, Instr.sureAddr]
            have c : (0 : Int) ≤ Int.ofNat m ∧ Int.ofNat m < (len : Int) := ⟨Int.natCast_nonneg m, by simp; omega⟩
            rw [if_pos c]
            simp [hsz, Addr.add_mk]
end
end Go.Dw
namespace Go.Dw
open Go Go.RowKit

section
variable {X : Ctx} {t : Tm} {s : List Ch} {a : Act}

theorem op1 {α : Type} (o : Option α) (f : α → Value) : (o.map f).toList.head? = o.map f := by cases o <;> rfl
theorem opl {α β : Type} (o : Option α) (f : α → β) : (o.toList.map f).head? = o.map f := by cases o <;> rfl

theorem wq_ok (hX : X.Good) (hf : Frw t s a) {o : Oper} (hq : isQ o.op = true) {q : TV → Prop} (h : wq X s t o.op q) : QOk X.P s (execOp a.eval o) q := by
  obtain ⟨dst, op, ty, pos, after, guard⟩ := o
  have ho : (Oper.mk dst op ty pos after guard).op = op := rfl
  rw [ho] at hq h
  cases op <;> first | (exfalso; simp [isQ] at hq; done) | skip
  case move x =>
    obtain ⟨tv, h1, h2⟩ := hf.tvk h
    exact ⟨tv, _, h1, h2, fun w _ => rfl⟩
  case assign x =>
    obtain ⟨tv, h1, h2⟩ := hf.tvk h
    exact ⟨tv, _, h1, h2, fun w _ => rfl⟩
  case pick c x y =>
    have h1 := hf.val h
    cases hc : a.eval c <;> simp only [hc] at h1 <;> try exact h1.elim
    rename_i b
    cases b with
    | true => obtain ⟨tv, h2, h3⟩ := hf.tvk (show tvk s t x q from h1); exact ⟨tv, _, h2, h3, fun w _ => by simp [execOp, hc, asBool]⟩
    | false => obtain ⟨tv, h2, h3⟩ := hf.tvk (show tvk s t y q from h1); exact ⟨tv, _, h2, h3, fun w _ => by simp [execOp, hc, asBool]⟩
  case load T x => exact wq_load hX hf rfl h
  case nilCheck x =>
    obtain ⟨tv, h1, h2⟩ := hf.tvk h
    cases tv with
    | bx i off =>
      obtain ⟨b, cs, T', hs, hv⟩ := tv_bx h1
      exact ⟨.bx i off, _, h1, h2, fun w _ => by simp [execOp, hv]⟩
    | bs _ _ => exact h2.elim
    | v p =>
      simp only [TV.val, Option.some.injEq] at h1
      cases p <;> try exact h2.elim
      rename_i p
      cases p with
      | none => exact h2.elim
      | some p => exact ⟨_, _, rfl, h2, fun w _ => by simp [execOp, ← h1]⟩
  case binOp bo ty x y ty' =>
    have h1 := hf.val (hf.val h)
    exact (wbin_ok h1).mono fun w => by simp only [execOp]
  case unOp uo ty x =>
    have h1 := hf.val h
    have gen : NeedQ X.P s (Op.unary uo (a.eval x)) q → QOk X.P s (execOp a.eval ⟨dst, .unOp uo ty x, ty, pos, after, guard⟩) q := fun hn => (NeedQ.ok hn).mono fun w => by simp only [execOp]
    cases uo <;> cases hx : a.eval x <;> simp only [hx] at h1 gen <;> try exact gen h1
    · obtain ⟨z, h2, h3⟩ := h1
      exact ⟨_, _, rfl, h3, fun w _ => by simp only [execOp, hx, Op.unary, Op.intArith, Sem.run_bind, Sem.run_pure, Result.andThen_ok, h2]⟩
    · exact ⟨_, _, rfl, h1, fun w _ => by simp [execOp, hx, Op.unary]⟩
  case convert S T x =>
    have h1 := hf.val h
    have gen : NeedQ X.P s (convert S T (a.eval x)) q → QOk X.P s (execOp a.eval ⟨dst, .convert S T x, ty, pos, after, guard⟩) q := fun hn => (NeedQ.ok hn).mono fun w => by simp only [execOp]
    split at h1
    · rename_i k0 m k1 sz by' z k sz' by'' z' hv hS hT
      obtain ⟨zz, h2, h3⟩ := h1
      refine ⟨_, _, rfl, h3, fun w _ => ?_⟩
      have e1 := (Good.und hX hS).2
      have e2 := (Good.und hX hT).2
      have u1 : (underlying S).run X.P w = .ok (.int k1) w := by simp [underlying, show X.P.underlying S = _ from e1]
      have u2 : (underlying T).run X.P w = .ok (.int k) w := by simp [underlying, show X.P.underlying T = _ from e2]
      simp only [execOp, hv]
      refine run_v _ w _ ?_
      simp [convert, u1, u2, Conv.intToInt, h2]
    · exact gen h1
  case fieldAddr S x f => exact wq_fieldAddr hX hf rfl h
  case field S x f =>
    have h1 := hf.val h
    split at h1
    · rename_i cs fs sz by' z hv hS
      cases hl : lget fs f with
      | none => simp [hl] at h1
      | some of =>
        obtain ⟨fo, ft⟩ := of
        simp only [hl] at h1
        obtain ⟨v, hq', hrun⟩ := run_partBox hX h1
        obtain ⟨_, fields, hu, hfs⟩ := Good.und hX hS
        have hfld : ∃ fl : Field, fields[f]? = some fl ∧ fl.offset = fo ∧ fl.type = ft := by
          rw [lget_eq, ← hfs, List.getElem?_map] at hl
          cases hx : fields.toList[f]? with
          | none => simp [hx] at hl
          | some fl =>
            simp [hx] at hl
            exact ⟨fl, by simpa using hx, hl.1, hl.2⟩
        obtain ⟨fl, hf1, hf2, hf3⟩ := hfld
        refine ⟨.v v, v, rfl, hq', fun w _ => ?_⟩
        simp only [execOp, hv]
        refine run_v _ w _ ?_
        have hun : (underlying S).run X.P w = .ok (.struct fields) w := by simp [underlying, hu]
        simp [Instr.field, hun, hf1, asAgg, hf2, hf3, hrun w]
    · exact h1.elim
  case indexAddr S x ix => exact wq_indexAddr hX hf rfl h
  case index S x ix => exact (NeedQ.ok (hf.val (hf.val h))).mono fun w => by simp only [execOp]
  case extract x i =>
    have h1 := hf.val h
    split at h1
    · rename_i vs hv
      rw [lget_eq] at h1
      cases hi : vs[i]? with
      | none => simp [hi] at h1
      | some v =>
        simp only [hi] at h1
        exact ⟨_, _, rfl, h1, fun w _ => by simp [execOp, hv, Instr.extract, hi]⟩
    · exact h1.elim
  case slice S x lo hi mx =>
    have h1 := hf.vals (hf.vals (hf.vals (hf.val h)))
    simp only [opl] at h1
    exact (NeedQ.ok h1).mono fun w => by simp only [execOp]
  case makeFunc fn first cap =>
    have h1 := hf.vals (hf.vals h)
    refine ⟨_, _, rfl, h1, fun w _ => ?_⟩
    simp only [execOp, Instr.makeFunc, Sem.run_bind, Sem.run_pure, Result.andThen_ok]
    congr 3 <;> (apply Array.ext'; simp)
  case makeInterface T x =>
    have h1 := hf.val h
    cases hT : tget X.tt T with
    | none => simp [hT] at h1
    | some ti => simp only [hT] at h1; exact (NeedQ.ok h1).mono fun w => by simp only [execOp]
  case build T parts =>
    obtain ⟨parts⟩ := parts
    simp only [wq] at h
    split at h
    · rename_i T' fs sz by' z hT
      cases hk : known X fs with
      | false => simp [hk] at h
      | true =>
        simp only [hk] at h
        obtain ⟨cs, hq', hfill⟩ := wbuild_ok hf h
        refine ⟨_, _, rfl, hq', fun w _ => ?_⟩
        simp only [execOp]
        refine run_v _ w _ ?_
        have := fill_build (a := a) (Good.und hX hT) (cs := cs) (parts := parts) (.inl ⟨fs, rfl, rfl⟩) hX (fun fs' hfs' f hf' => by cases hfs'; exact known_sound X _ hk f hf') hfill w
        simpa using this
    · rename_i T' m e sz by' z hT
      cases hte : tget X.tt e with
      | none => simp [hte] at h
      | some te =>
        simp only [hte] at h
        obtain ⟨cs, hq', hfill⟩ := wbuild_ok hf h
        refine ⟨_, _, rfl, hq', fun w _ => ?_⟩
        simp only [execOp]
        refine run_v _ w _ ?_
        have := fill_build (a := a) (Good.und hX hT) (cs := cs) (parts := parts) (.inr ⟨m, e, te, rfl, hte, rfl⟩) hX (fun fs' hfs' => by cases hfs') hfill w
        simpa using this
    · exact h.elim
  case call c =>
    obtain ⟨callee, ⟨args⟩, tys⟩ := c
    cases callee <;> first | (exfalso; simp [isQ] at hq; done) | skip
    rename_i b
    cases b <;> first | (exfalso; simp [isQ] at hq; done) | skip
    obtain ⟨tys⟩ := tys
    match args, tys, hq, h with
    | [x], [T], _, h =>
      simp only [wq] at h
      obtain ⟨tv, h1, h2⟩ := hf.tvk h
      cases hT : tget X.tt T with
      | none => simp [hT] at h2
      | some ti =>
        obtain ⟨k, sz, by', z⟩ := ti
        have hg := (Good.und hX hT).2
        cases k <;> simp only [hT] at h2 <;> try exact h2.elim
        · have hu : ∀ w, (underlying T).run X.P w = .ok .string w := fun w => by simp [underlying, show X.P.underlying T = _ from hg]
          cases tv with
          | v v =>
            simp only [TV.val, Option.some.injEq] at h1
            cases v <;> try exact h2.elim
            exact ⟨_, _, rfl, h2, fun w _ => by simp [execOp, resolve, invoke, builtin, Builtin.len_, ← h1, hu, goInt]⟩
          | bx _ _ => exact h2.elim
          | bs _ _ => exact h2.elim
        · rename_i e
          have hu : ∀ w, (underlying T).run X.P w = .ok (.slice e) w := fun w => by simp [underlying, show X.P.underlying T = _ from hg]
          cases tv with
          | v v =>
            simp only [TV.val, Option.some.injEq] at h1
            cases v <;> try exact h2.elim
            exact ⟨_, _, rfl, h2, fun w _ => by simp [execOp, resolve, invoke, builtin, Builtin.len_, ← h1, hu, goInt]⟩
          | bx _ _ => exact h2.elim
          | bs i m =>
            obtain ⟨b, cs, T', hs, hv⟩ := tv_bs h1
            exact ⟨.v _, _, rfl, h2, fun w _ => by simp [execOp, resolve, invoke, builtin, Builtin.len_, hv, hu, goInt]⟩
end
end Go.Dw
namespace Go.Dw
open Go Go.RowKit

/-- what an operation that writes comes to -/
def EOk (P : Program) (s : List Ch) (o : Oper) (a : Act) (q : TV → List Ch → Prop) : Prop :=
  ∀ w0 w, Ok w0 s w → ∀ (K : Act → World → Prop) (Q : Exit → Act → World → Prop),
    (∀ tv v s' w', Ok w0 s' w' → Keep s s' → tv.val s' = some v → q tv s' → K (a.put o.dst v) w') → o.wp P a w K Q

theorem EOk.of_q {P : Program} {s : List Ch} {o : Oper} {a : Act} {q : TV → List Ch → Prop} (h : QOk P s (execOp a.eval o) fun tv => q tv s) : EOk P s o a q := by
  obtain ⟨tv, v, h1, h2, h3⟩ := h
  intro w0 w hok K Q hK
  unfold Oper.wp
  rw [h3 w hok.mem]
  exact hK tv v s w hok (Keep.refl s) h1 h2

theorem run_v' {P : Program} {e : Sem Value} {w w' : World} {v : Value} (h : e.run P w = .ok v w') : (do pure (Next.value (← e)) : Sem Next).run P w = .ok (.value v) w' := by simp [h]

theorem NeedE.ok {P : Program} {s : List Ch} {o : Oper} {a : Act} {e : Sem Value} {q : TV → List Ch → Prop} (h : NeedE P s e q)
    (he : ∀ w, (execOp a.eval o).run P w = (do pure (Next.value (← e)) : Sem Next).run P w) : EOk P s o a q := by
  obtain ⟨h⟩ := h
  intro w0 w hok K Q hK
  obtain ⟨tv, v, w', s', h1, h2, h3, h4, h5⟩ := h w0 w hok
  unfold Oper.wp
  rw [he, run_v' h1]
  exact hK tv v s' w' h2 h3 h4 h5

theorem NeedU.ok {P : Program} {s : List Ch} {o : Oper} {a : Act} {e : Sem Unit} {q : TV → List Ch → Prop} (h : NeedU P s e fun s' => q (.v undef) s')
    (he : ∀ w, (execOp a.eval o).run P w = (do e; pure Next.skip : Sem Next).run P w) : EOk P s o a q := by
  obtain ⟨h⟩ := h
  intro w0 w hok K Q hK
  obtain ⟨w', s', h1, h2, h3, h4⟩ := h w0 w hok
  unfold Oper.wp
  have : (do e; pure Next.skip : Sem Next).run P w = .ok .skip w' := by simp [h1]
  rw [he, this]
  exact hK (.v undef) undef s' w' h2 h3 rfl h4

/-- a new variable of written cells -/
theorem new_ok {P : Program} {s : List Ch} {o : Oper} {a : Act} {T : Nat} {cs : List Value} {q : TV → List Ch → Prop} {off' : Nat → Value} (off : TV) (hoff : ∀ b, off.val (s ++ [.box b cs T]) = some (off' b))
    (h : ∀ b, q off (s ++ [.box b cs T])) (he : ∀ w, (execOp a.eval o).run P w = .ok (.value (off' w.heap.size)) (w.alloc (.cells cs.toArray T))) : EOk P s o a q := by
  intro w0 w hok K Q hK
  unfold Oper.wp
  rw [he]
  exact hK off _ _ _ (hok.alloc (.box w.heap.size cs T) (.cells cs.toArray T) rfl) (Keep.app s _) (hoff _) (h _)

theorem sget_last (s : List Ch) (c : Ch) : sget (s ++ [c]) s.length = some c := by rw [sget_eq]; simp

theorem allOne_sound : ∀ {l : List Value}, allOne l = true → ∀ v ∈ l, v.oneCell' = true
  | [], _, v, h => by cases h
  | x :: r, h, v, hv => by
    simp only [allOne] at h
    cases hx : x.oneCell' with
    | false => simp [hx] at h
    | true =>
      simp only [hx] at h
      rcases List.mem_cons.1 hv with rfl | hv
      · exact hx
      · exact allOne_sound h v hv

theorem repL_eq (z : List Value) : ∀ n, (Array.range (n * z.length)).map (fun i => z.toArray[i % z.length]!) = (repL n z).toArray := by
  intro n
  apply Array.ext'
  simp only [Array.toList_map, Array.toList_range]
  induction n with
  | zero => simp [repL]
  | succ n ih =>
    rw [Nat.succ_mul, Nat.add_comm, List.range_add, List.map_append, List.map_map]
    simp only [repL]
    congr 1
    · apply List.ext_getElem?
      intro j
      by_cases hj : j < z.length
      · simp [hj, Nat.mod_eq_of_lt hj]
      · simp [hj]
    · rw [← ih]
      apply List.map_congr_left
      intro j _
      simp

section
variable {X : Ctx} {t : Tm} {s : List Ch} {a : Act}

theorem we_store (hX : X.Good) (hf : Frw t s a) {o : Oper} {T : Nat} {x y : Operand} (ho : o.op = .store T x y) {q : TV → List Ch → Prop} (h : we X s t o.type (.store T x y) q) : EOk X.P s o a q := by
  obtain ⟨tv, h1, h2⟩ := hf.tvk h
  have h3 := hf.val h2
  cases tv with
  | bs _ _ => exact h3.elim
  | v p =>
    simp only [TV.val, Option.some.injEq] at h1
    subst h1
    exact NeedU.ok h3 fun w => by simp only [execOp, ho]
  | bx i off =>
    obtain ⟨b, cs, T', hs, hv⟩ := tv_bx h1
    simp only [hs] at h3
    have h4 := cellsOf_sound h3
    cases h5 : allOne (a.eval y).cells.toList with
    | false => simp [h5] at h4
    | true =>
      simp only [h5] at h4
      cases ht : tget X.tt T with
      | none => simp [ht] at h4
      | some ti =>
        simp only [ht] at h4
        cases hb : Nat.beq (lenL (a.eval y).cells.toList) ti.size with
        | false => simp [hb] at h4
        | true =>
          simp only [hb] at h4
          cases hp : putL cs off (a.eval y).cells.toList with
          | none => simp [hp] at h4
          | some cs' =>
            simp only [hp] at h4
            rw [forceL_eq] at h4
            obtain ⟨h6, h7⟩ := putL_eq _ _ _ _ hp
            have hsz : (a.eval y).cells.size = ti.size := by have := Nat.eq_of_beq_eq_true hb; rw [lenL_eq] at this; simpa using this
            intro w0 w hok K Q hK
            have hblk : w.heap[b]? = some (.cells cs.toArray T' (0, 0)) := hok.mem i _ hs b _ (Hp.one_self _ _)
            have hst := run_storeCells_at X.P b off T' (a.eval y).cells.toList 0 cs.toArray w hblk (by simpa using h6) (allOne_sound h5)
            simp only [Nat.add_zero] at hst
            rw [← h7] at hst
            have hrun : (execOp a.eval o).run X.P w = .ok .skip (w.setRow b cs'.toArray) := by
              simp only [execOp, ho, hv, Instr.storeAt, Instr.sureAddr, Sem.run_bind, Sem.run_pure, Result.andThen_ok, storeVar, (Good.und hX ht).size, hsz]
              simp [hst]
            unfold Oper.wp
            rw [hrun]
            refine hK (.v undef) undef _ _ (hok.upd hs (.box b cs' T') rfl rfl rfl (by simp [World.setRow]) (Nat.le_refl _) (fun k _ hk => ?_) ?_ (fun k hk => ?_)) (Keep.set hs (fun b' cs'' T'' e => by cases e; exact ⟨_, _, rfl⟩)) rfl h4
            · refine setRow_other w b k _ (fun e => ?_)
              subst e; simp [Ch.h, Hp.one] at hk
            · intro k o' hk
              simp only [Ch.h, Hp.one] at hk
              split at hk
              · rename_i e; subst e; cases hk
                exact setRow_heap w k _ _ _ _ hblk
              · cases hk
            · left
              simp only [Ch.h, Hp.one] at hk ⊢
              split at hk <;> simp_all

theorem we_ok (hX : X.Good) (hf : Frw t s a) {o : Oper} {q : TV → List Ch → Prop} (h : we X s t o.type o.op q) : EOk X.P s o a q := by
  cases ho : o.op <;> rw [ho] at h <;> try exact h.elim
  case alloc T =>
    simp only [we] at h
    cases ht : tget X.tt T with
    | none => simp [ht] at h
    | some ti =>
      simp only [ht] at h
      refine new_ok (off' := fun b => .pointer (some ⟨b, 0, none⟩)) (.bx s.length 0) (fun b => by simp [TV.val, sget_last]) h fun w => ?_
      obtain ⟨z, hz, hzc⟩ := (Good.und hX ht).zero w
      simp [execOp, ho, Instr.alloc, hz, newVar, newRow, hzc]
  case box T x =>
    have h1 := cellsOf_sound (hf.val h)
    refine new_ok (off' := fun b => .pointer (some ⟨b, 0, none⟩)) (.bx s.length 0) (fun b => by simp [TV.val, sget_last]) h1 fun w => ?_
    simp [execOp, ho, Instr.box, newVar, newRow]
  case store T x y => exact we_store hX hf ho h
  case buildSlice T m parts =>
    obtain ⟨parts⟩ := parts
    simp only [we] at h
    cases ht : tget X.tt T with
    | none => simp [ht] at h
    | some ti =>
      obtain ⟨k, sz, by', z⟩ := ti
      cases k <;> simp only [ht] at h <;> try exact h.elim
      rename_i e
      cases hte : tget X.tt e with
      | none => simp [hte] at h
      | some te =>
        simp only [hte] at h
        cases hb : Nat.ble (m * te.size) 16777216 with
        | false => simp [hb] at h
        | true =>
          simp only [hb] at h
          obtain ⟨cs, hq, hfill⟩ := wbuild_ok hf h
          refine new_ok (off' := fun b => .slice (some ⟨b, 0, none⟩) m m) (.bs s.length m) (fun b => by simp [TV.val, sget_last]) hq fun w => ?_
          have hu : (underlying T).run X.P w = .ok (.slice e) w := by simp [underlying, show X.P.underlying T = _ from (Good.und hX ht).2]
          have hs := (Good.und hX hte).size w
          obtain ⟨zz, hz, hzc⟩ := (Good.und hX hte).zero w
          have hle : ¬ m * te.size > 16777216 := by have := Nat.le_of_ble_eq_true hb; omega
          have hzl := (Good.und hX hte).zlen
          have hzs : zz.cells.size = te.size := by rw [hzc]; simpa using hzl
          have hrep := repL_eq te.zero m
          rw [hzl] at hrep
          by_cases h0 : m * te.size = 0
          · have r0 : Array.range 0 = #[] := rfl
            rw [h0, r0] at hrep
            have h0' : (#[] : Array Value) = (repL m te.zero).toArray := by simpa using hrep
            simp only [execOp, ho, Instr.buildSlice, Sem.run_bind, hu, Result.andThen_ok, hs, h0, if_true, Sem.run_pure]
            have hf' := hfill
            rw [← h0'] at hf'
            simp [hf', newRow, r0]
          · simp only [execOp, ho, Instr.buildSlice, Sem.run_bind, hu, Result.andThen_ok, hs, hle, if_false, h0, hz, Sem.run_pure, hzc, List.size_toArray, hzl, hrep]
            simp [hfill, newRow]
  case makeSlice T l c =>
    exact NeedE.ok (hf.val (hf.val h)) fun w => by simp only [execOp, ho]
  case range T x =>
    exact NeedE.ok (hf.val h) fun w => by simp only [execOp, ho]
  case next x b =>
    exact NeedE.ok (hf.val h) fun w => by simp only [execOp, ho]
  case call c =>
    obtain ⟨callee, ⟨args⟩, tys⟩ := c
    cases callee with
    | invoke r m =>
      simp only [we] at h
      obtain ⟨h4⟩ := hf.vals (hf.val h)
      intro w0 w hok K Q hK
      obtain ⟨g, fa, h5, h6⟩ := h4 w0 w hok
      have hrun : (execOp a.eval o).run X.P w = .ok (.enter g fa) w := by
        have e : (execOp a.eval o).run X.P w = (callMethod (a.eval r) m (args.map a.eval).toArray).run X.P w := by
          have e2 : (List.map a.eval args).take args.length = List.map a.eval args := List.take_of_length_le (by simp)
          simp [execOp, ho, resolve, invoke, callMethod, e2]
        rw [e, h5]
      unfold Oper.wp
      rw [hrun]
      refine h6.mono fun e w' he => ?_
      obtain ⟨v, s', rfl, h7, h8, h9⟩ := he
      exact hK (.v v) v s' w' h7 h8 rfl h9
    | value f =>
      simp only [we] at h
      obtain ⟨tv, h1, h2⟩ := hf.tvk h
      have h3 := hf.vals h2
      cases tv with
      | bx _ _ => exact h3.elim
      | bs _ _ => exact h3.elim
      | v fv =>
        simp only [TV.val, Option.some.injEq] at h1
        cases fv <;> try exact h3.elim
        rename_i fn first cap
        cases fn <;> try exact h3.elim
        rename_i g
        obtain ⟨first⟩ := first
        obtain ⟨cap⟩ := cap
        simp only [forceL_eq] at h3
        obtain ⟨h4⟩ := h3
        intro w0 w hok K Q hK
        obtain ⟨h5, h6⟩ := h4 w0 w hok
        have hrun : (execOp a.eval o).run X.P w = .ok (.enter g (first ++ args.map a.eval ++ cap).toArray) w := by
          have e : (execOp a.eval o).run X.P w = (callFunc g (first ++ args.map a.eval ++ cap).toArray).run X.P w := by
            simp [execOp, ho, resolve, Deferred.ofValue, invoke, ← h1]
          rw [e, h5]
        unfold Oper.wp
        rw [hrun]
        refine h6.mono fun e w' he => ?_
        obtain ⟨v, s', rfl, h7, h8, h9⟩ := he
        exact hK (.v v) v s' w' h7 h8 rfl h9
    | builtin b =>
      by_cases hb : b = .append
      · subst hb
        match args, h with
        | [], h => exact (hf.vals h).elim
        | [_], h => exact (hf.vals h).elim
        | _ :: _ :: _ :: _, h => exact (hf.vals h).elim
        | [x, y], h =>
          obtain ⟨tv, h1, h2⟩ := hf.tvk (hf.val h)
          obtain ⟨yv, h3, h4⟩ := h2
          rw [h1] at h3; cases h3
          exact NeedE.ok h4 fun w => by simp [execOp, ho, resolve, invoke, builtin]
      · have h' : vals s t args fun args => match b with
            | .copy => NeedE X.P s (Builtin.copy_ tys o.type args.toArray) q
            | .min => NeedE X.P s (Builtin.min_ tys o.type args.toArray) q
            | .max => NeedE X.P s (Builtin.max_ tys o.type args.toArray) q
            | .clear => NeedE X.P s (Builtin.clear_ tys o.type args.toArray) q
            | .cap => NeedE X.P s (Builtin.cap_ tys o.type args.toArray) q
            | _ => False := by
          cases b <;> first | exact absurd rfl hb | exact h
        have h1 := hf.vals h'
        cases b <;> try exact h1.elim
        all_goals exact NeedE.ok h1 fun w => by simp [execOp, ho, resolve, invoke, builtin]
end
end Go.Dw
namespace Go.Dw
open Go Go.RowKit

section
variable {P : Program} {ops : Array Oper} {Q : Exit → Act → World → Prop} {md : Region.Mode} {S : World → Prop} {N : Nat → Prop}

/-- Whatever order is picked from here on; S holds behind each operation of which N asks it. -/
def wpAnyG (P : Program) (md : Region.Mode) (ops : Array Oper) (Q : Exit → Act → World → Prop) (S : World → Prop) (N : Nat → Prop) : Nat → Array Bool → Act → World → Prop
  | 0, listed, a, w => Region.ready md ops listed = [] ∧ Q .normal a w
  | fuel + 1, listed, a, w =>
    (Region.ready md ops listed = [] → Q .normal a w) ∧
    ∀ i ∈ Region.ready md ops listed, wpOp P ops Q i (fun a' w' => (N i → S w') ∧ wpAnyG P md ops Q S N fuel (listed.setIfInBounds i true) a' w') a w

theorem wpAny_of_G : ∀ (fuel : Nat) (listed : Array Bool) (a : Act) (w : World), wpAnyG P md ops Q S N fuel listed a w → wpAny P md ops Q fuel listed a w
  | 0, _, _, _, h => h
  | fuel + 1, _, _, _, h => ⟨h.1, fun i hi => wpOp_mono (fun a' w' h' => wpAny_of_G fuel _ a' w' h'.2) (h.2 i hi)⟩

theorem wpAnyG_first {i : Nat} {oi : Oper} {v : Value} (hi : ops[i]? = some oi) (hsel : ∀ (j : Nat) (o : Oper) cs b, ops[j]? = some o → o.op ≠ .select cs b)
    (hQ : ∀ c a w, Q (.panic c) (a.put oi.dst v) w → Q (.panic c) a w)
    (hN : ∀ j oj, ops[j]? = some oj → (∀ e ∈ oj.after, Region.binds md e = true → e.on ≠ i) → N j) :
    ∀ (fuel : Nat) (listed : Array Bool) (a : Act) (w : World),
      (∀ j oj, ops[j]? = some oj → j ≠ i → listed.getD j true = false → (∀ e ∈ oj.after, Region.binds md e = true → e.on ≠ i) → oi.apart ops oj = true) →
      i ∈ Region.ready md ops listed → YieldsIf P ops S oi v a → S w →
      wpAnyG P md ops Q S N fuel (listed.setIfInBounds i true) (a.put oi.dst v) w → wpAnyG P md ops Q S N (fuel + 1) listed a w := by
  intro fuel
  induction fuel with
  | zero =>
    intro listed a w _ hr hy hS H
    refine ⟨fun h => (by rw [h] at hr; cases hr), fun j hj => ?_⟩
    by_cases hji : j = i
    · subst hji; exact hy.wpOp hi hS ⟨fun _ => hS, H⟩
    · have := ready_mono hj hji
      rw [H.1] at this
      cases this
  | succ fuel ih =>
    intro listed a w hfree hr hy hS H
    refine ⟨fun h => (by rw [h] at hr; cases hr), fun j hj => ?_⟩
    by_cases hji : j = i
    · subst hji; exact hy.wpOp hi hS ⟨fun _ => hS, H⟩
    · have h1 := H.2 j (ready_mono hj hji)
      obtain ⟨hjun, oj, hoj, hall⟩ := mem_ready.1 hj
      have hnot : ∀ e ∈ oj.after, Region.binds md e = true → e.on ≠ i := fun e he hb heq => by
        have h1 := hall e he hb
        have h0 := (mem_ready.1 hr).1
        rw [heq] at h1
        rcases Nat.lt_or_ge i listed.size with h' | h'
        · simp [h'] at h0 h1; rw [h0] at h1; cases h1
        · simp [Array.getElem?_eq_none h'] at h1
      have hNj := hN j oj hoj hnot
      have h2 := wpOp_putIf hoj (hfree j oj hoj hji hjun hnot) (fun cs b => hsel i oi cs b hi) (fun cs b => hsel j oj cs b hoj) hQ hy h1
      have hfree' : ∀ k ok, ops[k]? = some ok → k ≠ i → (listed.setIfInBounds j true).getD k true = false →
          (∀ e ∈ ok.after, Region.binds md e = true → e.on ≠ i) → oi.apart ops ok = true := fun k ok hk hki hun hno => by
        refine hfree k ok hk hki ?_ hno
        by_cases hjk : j = k
        · subst hjk; exact hjun
        · rw [getD_set_ne true hjk] at hun; exact hun
      refine wpOp_mono (fun a' w' h3 => ⟨h3.2.1, ih (listed.setIfInBounds j true) a' w' hfree' (ready_mono hr (Ne.symm hji)) h3.1 (h3.2.1 hNj) ?_⟩) h2
      rw [Array.setIfInBounds_comm _ _ hji]
      exact h3.2.2

theorem wpAnyG_done {listed : Array Bool} {a : Act} {w : World} (hr : Region.ready md ops listed = []) (h : Q .normal a w) :
    ∀ fuel, wpAnyG P md ops Q S N fuel listed a w
  | 0 => ⟨hr, h⟩
  | _ + 1 => ⟨fun _ => h, by rw [hr]; simp⟩
end

/-- An order: take number i (it only reads) · number i is the one that may come up · i or j may come up. -/
inductive DT where
  | done
  | take (i : Nat) (k : DT)
  | run (i : Nat) (k : DT)
  | two (i : Nat) (k : DT) (j : Nat) (k' : DT)
  | three (i : Nat) (k : DT) (j : Nat) (k' : DT) (l : Nat) (k'' : DT)
def DT.takes : DT → List Nat
  | .done => []
  | .take i k => i :: k.takes
  | .run _ k => k.takes
  | .two _ k _ k' => k.takes ++ k'.takes
  | .three _ k _ k' _ k'' => k.takes ++ k'.takes ++ k''.takes
def DT.steps : DT → Nat
  | .done => 0
  | .take _ k => k.steps + 1
  | .run _ k => k.steps + 1
  | .two _ k _ k' => Nat.max k.steps k'.steps + 1
  | .three _ k _ k' _ k'' => Nat.max (Nat.max k.steps k'.steps) k''.steps + 1
def DT.ok (ops : Array Oper) : DT → Array Bool → Bool
  | .done, l => (Region.ready .any ops l).isEmpty
  | .take i k, l => (Region.ready .any ops l).contains i && Region.free .any ops l i && k.ok ops (l.setIfInBounds i true)
  | .run i k, l => decide (Region.ready .any ops l = [i]) && k.ok ops (l.setIfInBounds i true)
  | .two i k j k', l => decide (Region.ready .any ops l = [i, j]) && k.ok ops (l.setIfInBounds i true) && k'.ok ops (l.setIfInBounds j true)
  | .three i k j k' m k'', l => decide (Region.ready .any ops l = [i, j, m]) && k.ok ops (l.setIfInBounds i true) && k'.ok ops (l.setIfInBounds j true) && k''.ok ops (l.setIfInBounds m true)
def DT.fine (ops : List Oper) (d : DT) : Bool := Region.noSelect ops.toArray && Nat.ble d.steps ops.length && d.ok ops.toArray (Array.replicate ops.length false)
/-- Does operation j not wait, by an edge of its own, for each that is taken? -/
def needS (ops : List Oper) (takes : List Nat) (j : Nat) : Bool := takes.any fun i => match lget ops j with | some o => !(o.after.toList.any fun e => Region.binds .any e && Nat.beq e.on i) | none => false
/-- s' still holds the chunks of s (those of s that are blank aside) -/
def subL : List Ch → List Ch → Prop
  | [], _ => True
  | _ :: _, [] => False
  | c :: r, d :: r' => (c = d ∨ c = .hp Hp.emp) ∧ subL r r'
theorem subL_spec : ∀ {s s' : List Ch}, subL s s' → ∀ i c, sget s i = some c → sget s' i = some c ∨ c = .hp Hp.emp
  | [], _, _, i, c, h => by cases h
  | c :: r, d :: r', h, i, c', hi => by
    obtain ⟨h1, h2⟩ := h
    cases i with
    | zero =>
      simp only [sget, Option.some.injEq] at hi
      subst hi
      rcases h1 with rfl | rfl
      · exact .inl rfl
      · exact .inr rfl
    | succ j => exact subL_spec h2 j c' hi
theorem subL_refl : ∀ s, subL s s
  | [] => trivial
  | _ :: r => ⟨.inl rfl, subL_refl r⟩
theorem subL_app : ∀ s cs, subL s (s ++ cs)
  | [], _ => trivial
  | _ :: r, cs => ⟨.inl rfl, subL_app r cs⟩
theorem subL_blank : ∀ (s : List Ch) (i : Nat), subL (sset s i (.hp Hp.emp)) s
  | [], _ => trivial
  | _ :: r, 0 => ⟨.inr rfl, subL_refl r⟩
  | _ :: r, i + 1 => ⟨.inl rfl, subL_blank r i⟩

def needR (ops : List Oper) (takes : List Nat) (i : Nat) (k : DT) : Bool := match needS ops takes i with | true => true | false => (match k.takes with | [] => false | _ => true)
def wrun (X : Ctx) (ops : List Oper) (i : Nat) (need : Bool) (s0 : List Ch) (cont : Tm → List Ch → Prop) (t : Tm) (s : List Ch) : Prop := match lget ops i with
  | some o => wguard ops o t
      (fun t => wop X s t o fun tv s' => putk X.n t o.dst tv fun t' => match need with | true => subL s0 s' ∧ cont t' s' | false => cont t' s')
      (fun t => putk X.n t o.dst (.v undef) fun t' => match need with | true => subL s0 s ∧ cont t' s | false => cont t' s)
  | none => False
def wdraw (X : Ctx) (ops : List Oper) (takes : List Nat) (s0 : List Ch) : DT → (Tm → List Ch → Prop) → Tm → List Ch → Prop
  | .done, Q, t, s => Q t s
  | .take i k, Q, t, s => match lget ops i with
    | some o => match isQ o.op with
      | true => wguard ops o t
        (fun t => wq X s0 t o.op fun tv => putk X.n t o.dst tv fun t' => wdraw X ops takes s0 k Q t' s)
        (fun t => putk X.n t o.dst (.v undef) fun t' => wdraw X ops takes s0 k Q t' s)
      | false => False
    | none => False
  | .run i k, Q, t, s => wrun X ops i (needR ops takes i k) s0 (fun t s => wdraw X ops takes s0 k Q t s) t s
  | .two i k j k', Q, t, s => wrun X ops i (needR ops takes i k) s0 (fun t s => wdraw X ops takes s0 k Q t s) t s ∧ wrun X ops j (needR ops takes j k') s0 (fun t s => wdraw X ops takes s0 k' Q t s) t s
  | .three i k j k' m k'', Q, t, s => wrun X ops i (needR ops takes i k) s0 (fun t s => wdraw X ops takes s0 k Q t s) t s ∧ wrun X ops j (needR ops takes j k') s0 (fun t s => wdraw X ops takes s0 k' Q t s) t s ∧ wrun X ops m (needR ops takes m k'') s0 (fun t s => wdraw X ops takes s0 k'' Q t s) t s

section
variable {X : Ctx} {n : Nat} {t : Tm} {s : List Ch} {a : Act}

theorem wguard_sound {all : List Oper} {o : Oper} {yes no : Tm → Prop} (hf : Fr n t s a) (h : wguard all o t yes no) :
    (Region.wanted o (yielded all.toArray a.tmps) = true ∧ ∃ t', Fr n t' s a ∧ yes t') ∨ (Region.wanted o (yielded all.toArray a.tmps) = false ∧ ∃ t', Fr n t' s a ∧ no t') := by
  unfold wguard at h
  cases hg : o.guard with
  | none => simp only [hg] at h; exact .inl ⟨by simp [Region.wanted, hg], t, hf, h⟩
  | some jw =>
    obtain ⟨j, want⟩ := jw
    simp only [hg] at h
    cases hs : gslot all j with
    | none => simp [hs] at h
    | some d =>
      simp only [hs] at h
      cases ha : aget t d with
      | none => simp [ha] at h
      | some tv =>
        simp only [ha] at h
        cases tv with
        | bx _ _ => exact h.elim
        | bs _ _ => exact h.elim
        | v x =>
          have hun : (∀ b, x ≠ .bool b) → yielded all.toArray a.tmps j = none := by
            intro hx
            obtain ⟨v, h1, h2⟩ := hf.2.2 d _ ha
            simp only [TV.val, Option.some.injEq] at h1
            subst h1
            unfold gslot at hs
            rw [lget_eq] at hs
            unfold yielded
            cases hl : all[j]? with
            | none => simp [hl] at hs
            | some oj =>
              simp only [hl] at hs
              simp only [List.getElem?_toArray, hl, Option.bind_some, hs, h2]
              cases x <;> first | rfl | exact absurd rfl (hx _)
          cases x <;> try exact h.elim
          case tuple => exact .inr ⟨by simp [Region.wanted, hg, hun (fun b e => by cases e)], t, hf, h⟩
          rename_i b
          have hy : yielded all.toArray a.tmps j = some b := by
            obtain ⟨v, h1, h2⟩ := hf.2.2 d _ ha
            simp only [TV.val, Option.some.injEq] at h1
            subst h1
            unfold gslot at hs
            rw [lget_eq] at hs
            unfold yielded
            cases hl : all[j]? with
            | none => simp [hl] at hs
            | some oj =>
              simp only [hl] at hs
              simp [hl, hs, h2]
          have hw : Region.wanted o (yielded all.toArray a.tmps) = (b == want) := by simp [Region.wanted, hg, hy]
          rw [hw]
          cases b <;> cases want <;> simp only [ifb] at h
          · exact .inl ⟨rfl, _, hf.know ha rfl, h⟩
          · exact .inr ⟨rfl, _, hf.know ha rfl, h⟩
          · exact .inr ⟨rfl, _, hf.know ha rfl, h⟩
          · exact .inl ⟨rfl, _, hf.know ha rfl, h⟩

theorem wop_ok (hX : X.Good) (hf : Fr n t s a) {o : Oper} {q : TV → List Ch → Prop} (h : wop X s t o q) : EOk X.P s o a q := by
  unfold wop at h
  cases hq : isQ o.op with
  | true => simp only [hq] at h; exact EOk.of_q (wq_ok hX hf.w hq h)
  | false => simp only [hq] at h; exact we_ok hX hf.w h

theorem wops_ok (hX : X.Good) {all : List Oper} {w0 : World} {Q : Exit → Act → World → Prop} {q : Tm → List Ch → Prop} (hQ : ∀ t s a w, Fr X.n t s a → Ok w0 s w → q t s → Q .normal a w) :
    ∀ (ops : List Oper) (t : Tm) (s : List Ch) (a : Act) (w : World), wops X all ops q t s → Fr X.n t s a → Ok w0 s w → wpList X.P all.toArray Q ops a w
  | [], t, s, a, w, h, hf, hok => wpList_nil (hQ t s a w hf hok h)
  | o :: r, t, s, a, w, h, hf, hok => by
    refine wpList_step fun K hK => ?_
    rcases wguard_sound hf h with ⟨hw, t', hf', hy⟩ | ⟨hw, t', hf', hn⟩
    · rw [if_pos hw]
      refine wop_ok hX hf' hy w0 w hok K Q fun tv v s' w' hok' hk hv hp => ?_
      obtain ⟨t'', h1, h2⟩ := (hf'.keep hk).putk hv hp
      exact hK _ _ (wops_ok hX hQ r t'' s' _ w' h1 h2 hok')
    · rw [if_neg (by rw [hw]; simp)]
      obtain ⟨t'', h1, h2⟩ := hf'.putk (tv := .v undef) rfl hn
      exact hK _ _ (wops_ok hX hQ r t'' s _ w h1 h2 hok)

theorem wdraw_ok (hX : X.Good) {ops : List Oper} {takes : List Nat} {w0 : World} {Q : Exit → Act → World → Prop} {q : Tm → List Ch → Prop} {s0 : List Ch}
    (hQ : ∀ t s a w, Fr X.n t s a → Ok w0 s w → q t s → Q .normal a w) (hP : ∀ c a w, ¬ Q (.panic c) a w) (hsel : Region.noSelect ops.toArray = true) :
    ∀ (d : DT) (fuel : Nat) (listed : Array Bool) (t : Tm) (s : List Ch) (a : Act) (w : World), d.steps ≤ fuel → d.ok ops.toArray listed = true → (∀ i ∈ d.takes, i ∈ takes) →
      wdraw X ops takes s0 d q t s → Fr X.n t s a → Ok w0 s w → (d.takes ≠ [] → subL s0 s) →
      wpAnyG X.P .any ops.toArray Q (Mem s0) (fun j => needS ops takes j = true) fuel listed a w := by
  have hP' : ∀ (oi : Oper) (v : Value) c a w, Q (.panic c) (a.put oi.dst v) w → Q (.panic c) a w := fun _ _ c _ w h => absurd h (hP c _ w)
  have subval : ∀ {s s' : List Ch}, subL s s' → ∀ tv v, TV.val s tv = some v → TV.val s' tv = some v := by
    intro s s' hs tv v hv
    cases tv with
    | v x => exact hv
    | bx i off =>
      obtain ⟨b, cs, T, h1, h2⟩ := tv_bx hv
      simp [TV.val, (subL_spec hs i _ h1).resolve_right (fun e => by cases e), h2]
    | bs i n =>
      obtain ⟨b, cs, T, h1, h2⟩ := tv_bs hv
      simp [TV.val, (subL_spec hs i _ h1).resolve_right (fun e => by cases e), h2]
  have sub_mem : ∀ {s : List Ch} {w : World}, subL s0 s → Ok w0 s w → Mem s0 w := fun hs hok i c e => by
    rcases subL_spec hs i c e with h | rfl
    · exact hok.mem i c h
    · exact Hp.emp_in _
  have runc : ∀ (i : Nat) (k : DT) (fuel : Nat) (listed : Array Bool) (t : Tm) (s : List Ch) (a : Act) (w : World),
      (∀ (t : Tm) (s : List Ch) (a : Act) (w : World), wdraw X ops takes s0 k q t s → Fr X.n t s a → Ok w0 s w → (k.takes ≠ [] → subL s0 s) →
        wpAnyG X.P .any ops.toArray Q (Mem s0) (fun j => needS ops takes j = true) fuel (listed.setIfInBounds i true) a w) →
      wrun X ops i (needR ops takes i k) s0 (fun t s => wdraw X ops takes s0 k q t s) t s → Fr X.n t s a → Ok w0 s w →
      wpOp X.P ops.toArray Q i (fun a' w' => (needS ops takes i = true → Mem s0 w') ∧ wpAnyG X.P .any ops.toArray Q (Mem s0) (fun j => needS ops takes j = true) fuel (listed.setIfInBounds i true) a' w') a w := by
    intro i k fuel listed t s a w ih h hf hok
    unfold wrun at h
    rw [lget_eq] at h
    cases ho : ops[i]? with
    | none => simp [ho] at h
    | some o =>
      simp only [ho] at h
      have fin : ∀ {t' : Tm} {s' : List Ch} {a' : Act} {w' : World}, (match needR ops takes i k with | true => subL s0 s' ∧ wdraw X ops takes s0 k q t' s' | false => wdraw X ops takes s0 k q t' s') →
          Fr X.n t' s' a' → Ok w0 s' w' → (needS ops takes i = true → Mem s0 w') ∧ wpAnyG X.P .any ops.toArray Q (Mem s0) (fun j => needS ops takes j = true) fuel (listed.setIfInBounds i true) a' w' := by
        intro t' s' a' w' hm hf' hok'
        cases hn : needR ops takes i k with
        | true =>
          simp only [hn] at hm
          exact ⟨fun _ => sub_mem hm.1 hok', ih t' s' a' w' hm.2 hf' hok' fun _ => hm.1⟩
        | false =>
          simp only [hn] at hm
          unfold needR at hn
          cases hs : needS ops takes i with
          | true => simp [hs] at hn
          | false =>
            simp only [hs] at hn
            refine ⟨(fun h => by cases h), ih t' s' a' w' hm hf' hok' fun hk => ?_⟩
            cases hkk : k.takes with
            | nil => exact absurd hkk hk
            | cons x xs => simp [hkk] at hn
      unfold wpOp
      have ho' : ops.toArray[i]? = some o := by simpa using ho
      simp only [ho']
      rcases wguard_sound hf h with ⟨hw, t', hf', hy⟩ | ⟨hw, t', hf', hn⟩
      · rw [if_pos hw]
        refine .inl (wop_ok hX hf' hy w0 w hok _ Q fun tv v s' w' hok' hk hv hp => ?_)
        obtain ⟨t'', h1, h2⟩ := (hf'.keep hk).putk hv hp
        exact fin h1 h2 hok'
      · rw [if_neg (by rw [hw]; simp)]
        obtain ⟨t'', h1, h2⟩ := hf'.putk (tv := .v undef) rfl hn
        exact fin h1 h2 hok
  intro d
  induction d with
  | done =>
    intro fuel listed t s a w _ hok _ h hf hw _
    exact wpAnyG_done (by simpa [DT.ok] using hok) (hQ t s a w hf hw h) fuel
  | take i k ih =>
    intro fuel listed t s a w hst hok htk h hf hw hsub
    have hs0 : subL s0 s := hsub (by simp [DT.takes])
    cases fuel with
    | zero => simp [DT.steps] at hst
    | succ fuel =>
      simp only [DT.ok, Bool.and_eq_true] at hok
      obtain ⟨⟨hr, hfree⟩, hk⟩ := hok
      simp only [wdraw] at h
      rw [lget_eq] at h
      cases ho : ops[i]? with
      | none => simp [ho] at h
      | some o =>
        simp only [ho] at h
        have ho' : ops.toArray[i]? = some o := by simpa using ho
        cases hq : isQ o.op with
        | false => simp [hq] at h
        | true =>
          simp only [hq] at h
          have main : ∀ (v : Value) (t'' : Tm), YieldsIf X.P ops.toArray (Mem s0) o v a → Fr X.n t'' s (a.put o.dst v) → wdraw X ops takes s0 k q t'' s →
              wpAnyG X.P .any ops.toArray Q (Mem s0) (fun j => needS ops takes j = true) (fuel + 1) listed a w := by
            intro v t'' hy hf'' hd
            refine wpAnyG_first ho' (Region.noSelect_spec hsel) (hP' o v) (fun j oj hj hno => ?_) fuel listed a w (Region.free_spec ho' hfree) (by simpa using hr) hy (sub_mem hs0 hw)
              (ih fuel _ t'' s _ w (by simp [DT.steps] at hst; omega) hk (fun j hj => htk j (by simp [DT.takes, hj])) hd hf'' hw fun _ => hs0)
            unfold needS
            refine List.any_eq_true.2 ⟨i, htk i (by simp [DT.takes]), ?_⟩
            rw [lget_eq]
            have hj' : ops[j]? = some oj := by simpa using hj
            simp only [hj', Bool.not_eq_true', List.any_eq_false, Bool.and_eq_true, not_and]
            intro e he hb heq
            exact hno e (Array.mem_toList_iff.1 he) hb (Nat.eq_of_beq_eq_true heq)
          rcases wguard_sound hf h with ⟨hwt, t', hf', hy⟩ | ⟨hwt, t', hf', hn⟩
          · have hfw : Frw t' s0 a := fun j tv v h1 h2 => hf'.w j tv v h1 (subval hs0 tv v h2)
            obtain ⟨tv, v, h1, h2, h3⟩ := wq_ok hX hfw hq hy
            obtain ⟨t'', h4, h5⟩ := hf'.putk (subval hs0 tv v h1) h2
            exact main v t'' (.inl ⟨hwt, h3⟩) h5 h4
          · obtain ⟨t'', h4, h5⟩ := hf'.putk (tv := .v undef) rfl hn
            exact main undef t'' (.inr ⟨hwt, rfl⟩) h5 h4
  | run i k ih =>
    intro fuel listed t s a w hst hok htk h hf hw hsub
    cases fuel with
    | zero => simp [DT.steps] at hst
    | succ fuel =>
      simp only [DT.ok, Bool.and_eq_true, decide_eq_true_eq] at hok
      refine ⟨(fun h0 => by rw [hok.1] at h0; cases h0), fun i' hi' => ?_⟩
      rw [hok.1] at hi'
      have : i' = i := by simpa using hi'
      subst this
      exact runc i' k fuel listed t s a w (fun t s a w h hf hw hs => ih fuel _ t s a w (by simp [DT.steps] at hst; omega) hok.2 (fun j hj => htk j (by simpa [DT.takes] using hj)) h hf hw hs) h hf hw
  | two i k j k' ih ih' =>
    intro fuel listed t s a w hst hok htk h hf hw hsub
    cases fuel with
    | zero => simp [DT.steps] at hst
    | succ fuel =>
      simp only [DT.ok, Bool.and_eq_true, decide_eq_true_eq] at hok
      simp only [DT.steps] at hst
      have hm := Nat.le_max_left k.steps k'.steps
      have hm' := Nat.le_max_right k.steps k'.steps
      refine ⟨(fun h0 => by rw [hok.1.1] at h0; cases h0), fun i' hi' => ?_⟩
      rw [hok.1.1] at hi'
      rcases (by simpa using hi' : i' = i ∨ i' = j) with rfl | rfl
      · exact runc i' k fuel listed t s a w (fun t s a w h hf hw hs => ih fuel _ t s a w (Nat.le_trans hm (Nat.le_of_succ_le_succ hst)) hok.1.2 (fun j hj => htk j (by simp [DT.takes, hj])) h hf hw hs) h.1 hf hw
      · exact runc i' k' fuel listed t s a w (fun t s a w h hf hw hs => ih' fuel _ t s a w (Nat.le_trans hm' (Nat.le_of_succ_le_succ hst)) hok.2 (fun j hj => htk j (by simp [DT.takes, hj])) h hf hw hs) h.2 hf hw
  | three i k j k' m k'' ih ih' ih'' =>
    intro fuel listed t s a w hst hok htk h hf hw hsub
    cases fuel with
    | zero => simp [DT.steps] at hst
    | succ fuel =>
      simp only [DT.ok, Bool.and_eq_true, decide_eq_true_eq] at hok
      simp only [DT.steps] at hst
      have hm0 := Nat.le_max_left (Nat.max k.steps k'.steps) k''.steps
      have hm := Nat.le_trans (Nat.le_max_left k.steps k'.steps) hm0
      have hm' := Nat.le_trans (Nat.le_max_right k.steps k'.steps) hm0
      have hm'' := Nat.le_max_right (Nat.max k.steps k'.steps) k''.steps
      refine ⟨(fun h0 => by rw [hok.1.1.1] at h0; cases h0), fun i' hi' => ?_⟩
      rw [hok.1.1.1] at hi'
      rcases (by simpa using hi' : i' = i ∨ i' = j ∨ i' = m) with rfl | rfl | rfl
      · exact runc i' k fuel listed t s a w (fun t s a w h hf hw hs => ih fuel _ t s a w (Nat.le_trans hm (Nat.le_of_succ_le_succ hst)) hok.1.1.2 (fun j hj => htk j (by simp [DT.takes, hj])) h hf hw hs) h.1 hf hw
      · exact runc i' k' fuel listed t s a w (fun t s a w h hf hw hs => ih' fuel _ t s a w (Nat.le_trans hm' (Nat.le_of_succ_le_succ hst)) hok.1.2 (fun j hj => htk j (by simp [DT.takes, hj])) h hf hw hs) h.2.1 hf hw
      · exact runc i' k'' fuel listed t s a w (fun t s a w h hf hw hs => ih'' fuel _ t s a w (Nat.le_trans hm'' (Nat.le_of_succ_le_succ hst)) hok.2 (fun j hj => htk j (by simp [DT.takes, hj])) h hf hw hs) h.2.2 hf hw

/-- The way through a region that draws: an order (checked by computation), and what is to be shown along it. -/
theorem NeedD.by_order0 {X : Ctx} (hX : X.Good) {ops : List Oper} {Q : Tm → List Ch → Prop} {t : Tm} {s s0 : List Ch} (d : DT) (hd : d.fine ops = true) (hs : subL s0 s) (h : wdraw X ops d.takes s0 d Q t s) : NeedD X ops Q t s := by
  refine ⟨fun w0 w a Q' hok hf hQ hP => ?_⟩
  unfold DT.fine at hd
  simp only [Bool.and_eq_true] at hd
  obtain ⟨⟨h1, h2⟩, h3⟩ := hd
  have hlen : ops.toArray.size = ops.length := by simp
  rw [hlen]
  exact wpAny_of_G _ _ _ _ (wdraw_ok hX (fun t s a w hf hok hq => hQ t s a w hok hf hq) hP h1 d ops.length _ t s a _ (Nat.le_of_ble_eq_true h2) h3 (fun i hi => hi) h hf hok.drew fun _ => hs)
theorem NeedD.by_order {X : Ctx} (hX : X.Good) {ops : List Oper} {Q : Tm → List Ch → Prop} {t : Tm} {s : List Ch} (d : DT) (hd : d.fine ops = true) (h : wdraw X ops d.takes s d Q t s) : NeedD X ops Q t s :=
  NeedD.by_order0 hX d hd (subL_refl s) h
end
end Go.Dw
namespace Go.Dw
open Go Go.RowKit

def conc (n : Nat) (w0 : World) (Q : Ex → Tm → List Ch → Prop) : Exit → Act → World → Prop
  | .normal, a, w => ∃ t s, Fr n t s a ∧ Ok w0 s w ∧ Q .normal t s
  | .exit i, a, w => ∃ t s, Fr n t s a ∧ Ok w0 s w ∧ Q (.exit i) t s
  | .ret, a, w => ∃ t s, Fr n t s a ∧ Ok w0 s w ∧ Q .ret t s
  | _, _, _ => False

theorem conc_mono {n : Nat} {w0 : World} {Q Q' : Ex → Tm → List Ch → Prop} (h : ∀ e t s, Q e t s → Q' e t s) : ∀ e a w, conc n w0 Q e a w → conc n w0 Q' e a w
  | .normal, _, _, ⟨t, s, h1, h2, h3⟩ => ⟨t, s, h1, h2, h _ _ _ h3⟩
  | .exit _, _, _, ⟨t, s, h1, h2, h3⟩ => ⟨t, s, h1, h2, h _ _ _ h3⟩
  | .ret, _, _, ⟨t, s, h1, h2, h3⟩ => ⟨t, s, h1, h2, h _ _ _ h3⟩

theorem WP_sound {X : Ctx} (hX : X.Good) {w0 : World} : ∀ (c : Code) (Q : Ex → Tm → List Ch → Prop) (t : Tm) (s : List Ch) (a : Act) (w : World),
    WP X c Q t s → Fr X.n t s a → Ok w0 s w → c.wp X.P (conc X.n w0 Q) a w := by
  intro c
  induction c with
  | skip => intro Q t s a w h hf hok; exact wp_skip ⟨t, s, hf, hok, h⟩
  | label l => intro Q t s a w h hf hok; exact wp_label ⟨t, s, hf, hok, h⟩
  | exit id => intro Q t s a w h hf hok; exact wp_exit ⟨t, s, hf, hok, h⟩
  | ret => intro Q t s a w h hf hok; exact wp_ret ⟨t, s, hf, hok, h⟩
  | refuse why => intro Q t s a w h hf hok; exact h.elim
  | goto l => intro Q t s a w h hf hok; exact h.elim
  | scope b ih => intro Q t s a w h hf hok; exact h.elim
  | rangeFunc f ps x b ih1 ih2 => intro Q t s a w h hf hok; exact h.elim
  | seq x y ihx ihy =>
    intro Q t s a w h hf hok
    refine wp_seq (wp_mono (ihx _ t s a w h hf hok) fun e a' w' hq => ?_)
    cases e with
    | normal => obtain ⟨t', s', h1, h2, h3⟩ := hq; exact ihy Q t' s' a' w' h3 h1 h2
    | exit i => obtain ⟨t', s', h1, h2, h3⟩ := hq; exact ⟨t', s', h1, h2, h3⟩
    | ret => obtain ⟨t', s', h1, h2, h3⟩ := hq; exact ⟨t', s', h1, h2, h3⟩
    | goto l => exact hq.elim
    | panic c => exact hq.elim
    | outgrown => exact hq.elim
  | cond c x y ihx ihy =>
    intro Q t s a w h hf hok
    obtain ⟨tv, h1, h2⟩ := hf.w.tvk h
    cases tv with
    | bx _ _ => exact h2.elim
    | bs _ _ => exact h2.elim
    | v v =>
      simp only [TV.val, Option.some.injEq] at h1
      cases v <;> try exact h2.elim
      rename_i b
      refine wp_cond h1.symm ?_
      cases b with
      | true => exact ihx Q t s a w h2 hf hok
      | false => exact ihy Q t s a w h2 hf hok
  | block id c ih =>
    intro Q t s a w h hf hok
    refine wp_block (wp_mono (ih _ t s a w h hf hok) fun e a' w' hq => ?_)
    cases e with
    | normal => obtain ⟨t', s', h1, h2, h3⟩ := hq; exact ⟨t', s', h1, h2, h3⟩
    | exit i =>
      obtain ⟨t', s', h1, h2, h3⟩ := hq
      simp only [Exit.inBlock]
      by_cases hi : i = id
      · subst hi
        rw [if_pos rfl]
        simp only [Nat.beq_refl] at h3
        exact ⟨t', s', h1, h2, h3⟩
      · rw [if_neg hi]
        have : Nat.beq i id = false := by cases e : Nat.beq i id with
          | false => rfl
          | true => exact absurd (Nat.eq_of_beq_eq_true e) hi
        simp only [this] at h3
        exact ⟨t', s', h1, h2, h3⟩
    | ret => obtain ⟨t', s', h1, h2, h3⟩ := hq; exact ⟨t', s', h1, h2, h3⟩
    | goto l => exact hq.elim
    | panic c => exact hq.elim
    | outgrown => exact hq.elim
  | loop c ih =>
    intro Q t s a w h hf hok
    obtain ⟨G, I, S, R, m, g0, h0, e0, round⟩ := h
    refine wp_loop_ghost (fun k a w => ∃ g, R g ∧ m g = k ∧ Ok w0 (S g) w ∧ Fr X.n (I g) (S g) a) (m g0) ⟨g0, h0, rfl, (e0 _ w0 w a hok hf).1, (e0 _ w0 w a hok hf).2⟩ ?_
    rintro k a w ⟨g, hR, rfl, hok, hf⟩
    refine wp_mono (ih _ _ _ a w (round g hR ⟨w0, w, hok⟩) hf hok) fun e a' w' hq => ?_
    cases e with
    | normal =>
      obtain ⟨t', s', h1, h2, g', h3, h4, h5⟩ := hq
      exact ⟨m g', h4, g', h3, rfl, (h5 _ w0 w' a' h2 h1).1, (h5 _ w0 w' a' h2 h1).2⟩
    | exit i => obtain ⟨t', s', h1, h2, h3⟩ := hq; exact ⟨t', s', h1, h2, h3⟩
    | ret => obtain ⟨t', s', h1, h2, h3⟩ := hq; exact ⟨t', s', h1, h2, h3⟩
    | goto l => exact hq.elim
    | panic c => exact hq.elim
    | outgrown => exact hq.elim
  | region id ops draw =>
    intro Q t s a w h hf hok
    obtain ⟨ops⟩ := ops
    cases draw with
    | false =>
      refine wp_region_list ?_
      exact wops_ok hX (fun t s a w hf hok hq => ⟨t, s, hf, hok, hq⟩) ops t s a w h hf hok
    | true =>
      obtain ⟨h⟩ := h
      refine wp_region_any hX.1 ?_
      exact h w0 w a _ hok hf (fun t s a w hok hf hq => ⟨t, s, hf, hok, hq⟩) (fun c a w hq => hq)

/-! ### The entry of a function, and its end -/
/-- The results' values, read at the end. -/
def res1 (X : Ctx) (s : List Ch) (t : Tm) : ResultVar → (Value → Prop) → Prop
  | .tmp i, q => val s t (.tmp i) q
  | .cell i T, q => tvk s t (.tmp i) fun tv => match tv with
    | .bx i off => match sget s i with
      | some (.box _ cs _) => loadBox X T cs off fun tv => match tv with | .v x => q x | _ => False
      | _ => False
    | _ => False
def resL (X : Ctx) (s : List Ch) (t : Tm) : List ResultVar → (List Value → Prop) → Prop
  | [], q => q []
  | r :: rs, q => res1 X s t r fun v => resL X s t rs fun vs => q (v :: vs)
def resk (X : Ctx) (s : List Ch) (t : Tm) (rs : List ResultVar) (q : Value → Prop) : Prop := resL X s t rs fun vs => match vs with
  | [v] => q v
  | [] => q (.tuple #[])
  | v :: u :: r => q (.tuple (v :: u :: r).toArray)

def resOne (tmps : Array Value) : ResultVar → Sem Value
  | .tmp t => pure (tmps.getD t undef)
  | .cell a t => do loadVar t (← asAddr (tmps.getD a undef))

theorem res1_ok {X : Ctx} (hX : X.Good) {t : Tm} {s : List Ch} {a : Act} {w : World} (hf : Frw t s a) (hm : Mem s w) {r : ResultVar} {q : Value → Prop} (h : res1 X s t r q) :
    ∃ v, (resOne a.tmps r).run X.P w = .ok v w ∧ q v := by
  cases r with
  | tmp i => exact ⟨_, rfl, hf.val h⟩
  | cell i T =>
    obtain ⟨tv, h1, h2⟩ := hf.tvk h
    cases tv with
    | v _ => exact h2.elim
    | bs _ _ => exact h2.elim
    | bx j off =>
      obtain ⟨b, cs, T', hs, hv⟩ := tv_bx h1
      simp only [hs] at h2
      obtain ⟨v, h3, h4⟩ := run_loadBox hX hs h2
      refine ⟨v, ?_, h3⟩
      have hv' : a.tmps.getD i undef = .pointer (some ⟨b, off, none⟩) := hv
      simp only [resOne, hv', asAddr, Sem.run_bind, Sem.run_pure, Result.andThen_ok]
      exact h4 w hm

theorem resL_ok {X : Ctx} (hX : X.Good) {t : Tm} {s : List Ch} {a : Act} {w : World} (hf : Frw t s a) (hm : Mem s w) : ∀ {rs : List ResultVar} {q : List Value → Prop}, resL X s t rs q →
    ∃ vs, (rs.mapM (resOne a.tmps)).run X.P w = .ok vs w ∧ q vs
  | [], q, h => ⟨[], by simp, h⟩
  | r :: rs, q, h => by
    obtain ⟨v, h1, h2⟩ := res1_ok hX hf hm h
    obtain ⟨vs, h3, h4⟩ := resL_ok hX hf hm h2
    exact ⟨v :: vs, by simp [List.mapM_cons, h1, h3], h4⟩

theorem resk_ok {X : Ctx} (hX : X.Good) {t : Tm} {s : List Ch} {a : Act} {w : World} (hf : Frw t s a) (hm : Mem s w) {rs : List ResultVar} {q : Value → Prop} (h : resk X s t rs q) {fn : Func} (hr : fn.results = rs.toArray) :
    ∃ v, (results fn a.tmps).run X.P w = .ok v w ∧ q v := by
  obtain ⟨vs, h1, h2⟩ := resL_ok hX hf hm h
  have e : results fn a.tmps = (do let vs ← fn.results.mapM (resOne a.tmps); pure (if h : vs.size = 1 then vs[0] else .tuple vs)) := by
    unfold results
    have e2 : (fun r => match r with | .tmp t => pure (a.tmps.getD t undef) | .cell b t => do loadVar t (← asAddr (a.tmps.getD b undef)) : ResultVar → Sem Value) = resOne a.tmps := by
      funext r
      cases r <;> rfl
    rw [← e2]
    rfl
  rw [e, hr, Array.mapM_eq_mapM_toList]
  match vs, h1, h2 with
  | [], h1, h2 => exact ⟨_, by simp [h1], h2⟩
  | [v], h1, h2 => exact ⟨_, by simp [h1], h2⟩
  | v :: u :: r, h1, h2 => exact ⟨_, by simp [h1], h2⟩

def iniT : Nat → List Value → Tm
  | _, [] => []
  | i, v :: r => (i, .v v) :: iniT (i + 1) r

theorem aget_iniT : ∀ (l : List Value) (k i : Nat) (tv : TV), aget (iniT k l) i = some tv → ∃ v, tv = .v v ∧ k ≤ i ∧ l[i - k]? = some v
  | [], k, i, tv, h => by cases h
  | v :: r, k, i, tv, h => by
    simp only [iniT] at h
    rw [aget_cons] at h
    split at h
    · rename_i e; subst e; cases h; exact ⟨v, rfl, Nat.le_refl _, by simp⟩
    · rename_i e
      obtain ⟨u, h1, h2, h3⟩ := aget_iniT r (k + 1) i tv h
      refine ⟨u, h1, by omega, ?_⟩
      rw [show i - k = (i - (k + 1)) + 1 by omega]
      simpa using h3

/-- What is left of a function's proof: its code from its arguments on. -/
theorem enter {X : Ctx} (hX : X.Good) {f : Nat} {fn : Func} {c : Code} {args : List Value} {w : World} {R : Value → List Ch → Prop} (rs : List ResultVar)
    (hf : X.P.funcs[f]? = some fn) (hb : fn.body = some c) (hn : (fn.name == "runtime.NumGoroutine") = false) (hr : fn.results = rs.toArray) (hm : fn.ntmps = X.n) (hl : Nat.ble args.length X.n = true)
    (h : WP X c (fun e t s => match e with
      | .exit _ => False
      | _ => resk X s t rs fun v => ∃ cs, R v cs ∧ ∀ w', Ok w s w' → Ok w (.hp (Hp.whole w) :: cs) w') (iniT 0 args) [.hp (Hp.whole w)]) :
    CallsE X.P f args.toArray w (Ret w R) := by
  have hl := Nat.le_of_ble_eq_true hl
  refine ⟨fun w => ?_, calls_of_wp hf hb ?_⟩
  · have hn' : ¬ fn.name = "runtime.NumGoroutine" := by simpa using hn
    simp [callFunc, hf, hn', hb]
  · refine wp_mono (WP_sound hX c _ _ _ _ w h ⟨by simp [hm]; omega, rfl, fun i tv hi => ?_⟩ (Ok.start w)) fun e a w' hq => ?_
    · obtain ⟨v, rfl, _, h2⟩ := aget_iniT args 0 i tv hi
      refine ⟨v, rfl, ?_⟩
      have : i < args.length := (List.getElem?_eq_some_iff.1 (by simpa using h2)).1
      rw [Array.getElem?_append_left (by simpa using this)]
      simpa using h2
    · have fin : ∀ t s, Fr X.n t s a → Ok w s w' → (resk X s t rs fun v => ∃ cs, R v cs ∧ ∀ w', Ok w s w' → Ok w (.hp (Hp.whole w) :: cs) w') →
          a.defers = [] ∧ ∃ v, (results fn a.tmps).run X.P w' = .ok v w' ∧ Ret w R (.returned v) w' := by
        intro t s hf' hok hk
        obtain ⟨v, h1, cs, h2, h3⟩ := resk_ok hX hf'.w hok.mem hk hr
        exact ⟨hf'.2.1, v, h1, v, cs, rfl, h3 w' hok, h2⟩
      cases e with
      | normal => obtain ⟨t, s, h1, h2, h3⟩ := hq; exact fin t s h1 h2 h3
      | ret => obtain ⟨t, s, h1, h2, h3⟩ := hq; exact fin t s h1 h2 h3
      | exit i => obtain ⟨t, s, h1, h2, h3⟩ := hq; exact h3.elim
      | goto l => exact hq.elim
      | panic c => exact hq.elim
      | outgrown => exact hq.elim
end Go.Dw
