/- A layer over the wp of loaded Go code: the function WP, which computes what is to be shown of a function's code. No condition. -/
import Derived.Test.YtdjhgcpmipglfaaDw1
namespace Go.Dw
open Go Go.RowKit

/-- A slot's content: a value, or a pointer into chunk i (a box). -/
inductive TV where
  | v (x : Value)
  | bx (i off : Nat)
  /-- a slice over the whole of chunk i (a box), of n elements -/
  | bs (i n : Nat)
abbrev Tm := List (Nat × TV)
def aget : Tm → Nat → Option TV
  | [], _ => none
  | (d, x) :: r, i => match Nat.beq d i with | true => some x | false => aget r i
def TV.val (s : List Ch) : TV → Option Value
  | .v x => some x
  | .bx i off => match sget s i with | some (.box b _ _) => some (.pointer (some ⟨b, off, none⟩)) | _ => none
  | .bs i n => match sget s i with | some (.box b _ _) => some (.slice (some ⟨b, 0, none⟩) n n) | _ => none

/-! ### Types -/
inductive TK where
  | int (k : IntKind) | bool | str | sl (e : Nat) | st (fs : List (Nat × Nat)) | ar (len e : Nat) | other
structure TI where
  k : TK
  size : Nat
  bytes : Nat
  zero : List Value
def TI.agg (t : TI) : Bool := match t.k with | .st _ | .ar _ _ => true | _ => false
def lget {α : Type} : List α → Nat → Option α
  | [], _ => none
  | c :: r, i => match i with | 0 => some c | j + 1 => lget r j
theorem lget_eq {α : Type} : ∀ (s : List α) (i : Nat), lget s i = s[i]?
  | [], _ => rfl
  | _ :: _, 0 => rfl
  | _ :: r, j + 1 => by simp [lget, lget_eq r j]
def tget : List (Nat × TI) → Nat → Option TI
  | [], _ => none
  | (d, x) :: r, i => match Nat.beq d i with | true => some x | false => tget r i
structure Ctx where
  P : Program
  n : Nat
  tt : List (Nat × TI)

def GoodK (P : Program) (t : Nat) : TK → Prop
  | .int k => P.underlying t = some (.int k)
  | .bool => P.underlying t = some .bool
  | .str => P.underlying t = some .string
  | .sl e => P.underlying t = some (.slice e)
  | .st fs => ∃ fields : Array Field, P.underlying t = some (.struct fields) ∧ (fields.toList.map fun f => (f.offset, f.type)) = fs
  | .ar n e => P.underlying t = some (.array n e)
  | .other => ∃ d, P.underlying t = some d ∧ (match d with | .struct _ | .array _ _ => false | _ => true) = true
def GoodT (P : Program) (t : Nat) (i : TI) : Prop :=
  (∃ inf, P.info? t = some inf ∧ inf.size = i.size ∧ inf.bytes = i.bytes ∧ ∃ z, inf.zero = some z ∧ z.cells = i.zero.toArray ∧ i.zero.length = i.size) ∧ GoodK P t i.k
def Ctx.Good (X : Ctx) : Prop := X.P.follows .mixedOrders = true ∧ ∀ t i, tget X.tt t = some i → GoodT X.P t i

/-! ### What is left to the prover -/
/- the Bool stands last: the kernel compares the last argument first -/
def ifb (p q : Prop) (b : Bool) : Prop := match b with | true => p | false => q
theorem bsplit {b : Bool} {p q : Prop} (h1 : b = true → p) (h2 : b = false → q) : ifb p q b := by cases b <;> simp_all [ifb]
theorem bsplitd {c p q : Prop} [Decidable c] (h1 : c → p) (h2 : ¬ c → q) : ifb p q (decide c) := bsplit (fun h => h1 (of_decide_eq_true h)) (fun h => h2 (of_decide_eq_false h))
theorem btrue {b : Bool} {p q : Prop} (h : b = true) (hp : p) : ifb p q b := by subst h; exact hp
theorem bfalse {b : Bool} {p q : Prop} (h : b = false) (hq : q) : ifb p q b := by subst h; exact hq
theorem dtrue {c p q : Prop} [Decidable c] (h : c) (hp : p) : ifb p q (decide c) := btrue (decide_eq_true h) hp
theorem dfalse {c p q : Prop} [Decidable c] (h : ¬ c) (hq : q) : ifb p q (decide c) := bfalse (decide_eq_false h) hq

/-- a number that may wrap -/
inductive NeedW (k : IntKind) (x : Int) (q : Int → Prop) : Prop
  | mk (z : Int) (h : k.wrap x = z) (hk : q z)
/-- an operation that only reads -/
inductive NeedQ (P : Program) (s : List Ch) (e : Sem Value) (q : TV → Prop) : Prop
  | mk (v : Value) (h : ∀ w, Mem s w → e.run P w = .ok v w) (hk : q (.v v))
def Keep (s s' : List Ch) : Prop := ∀ tv v, TV.val s tv = some v → TV.val s' tv = some v
/-- an operation that writes or makes memory -/
inductive NeedE (P : Program) (s : List Ch) (e : Sem Value) (q : TV → List Ch → Prop) : Prop
  | mk (h : ∀ w0 w, Ok w0 s w → ∃ tv v w' s', e.run P w = .ok v w' ∧ Ok w0 s' w' ∧ Keep s s' ∧ tv.val s' = some v ∧ q tv s')
inductive NeedU (P : Program) (s : List Ch) (e : Sem Unit) (q : List Ch → Prop) : Prop
  | mk (h : ∀ w0 w, Ok w0 s w → ∃ w' s', e.run P w = .ok () w' ∧ Ok w0 s' w' ∧ Keep s s' ∧ q s')
/-- a call of a Go function -/
inductive NeedC (P : Program) (s : List Ch) (f : Nat) (args : List Value) (q : TV → List Ch → Prop) : Prop
  | mk (h : ∀ w0 w, Ok w0 s w → Calls P f args.toArray w fun e w' => ∃ v s', e = .returned v ∧ Ok w0 s' w' ∧ Keep s s' ∧ q (.v v) s')

/-! ### Operands -/
def opv (t : Tm) : Operand → Option TV
  | .tmp i => aget t i
  | .const v => some (.v v)
  | .global g => some (.v (.pointer (some ⟨g, 0, none⟩)))
  | .func f => some (.v (.func (.func f) #[] #[]))
def valk (s : List Ch) (tv : TV) (q : Value → Prop) : Prop := match tv with
  | .v x => q x
  | .bx i off => match sget s i with | some (.box b _ _) => q (.pointer (some ⟨b, off, none⟩)) | _ => False
  | .bs i n => match sget s i with | some (.box b _ _) => q (.slice (some ⟨b, 0, none⟩) n n) | _ => False
def okv (s : List Ch) (tv : TV) (p : Prop) : Prop := match tv with
  | .v _ => p
  | .bx i _ => match sget s i with | some (.box _ _ _) => p | _ => False
  | .bs i _ => match sget s i with | some (.box _ _ _) => p | _ => False
def tvk (s : List Ch) (t : Tm) (x : Operand) (q : TV → Prop) : Prop := match opv t x with | some tv => okv s tv (q tv) | none => False
def val (s : List Ch) (t : Tm) (x : Operand) (q : Value → Prop) : Prop := tvk s t x fun tv => valk s tv q
def vals (s : List Ch) (t : Tm) : List Operand → (List Value → Prop) → Prop
  | [], q => q []
  | x :: r, q => val s t x fun v => vals s t r fun vs => q (v :: vs)
def forceL : List Value → (List Value → Prop) → Prop
  | [], q => q []
  | v :: r, q => forceL r fun vs => q (v :: vs)
def takeL : Nat → List Value → List Value
  | 0, _ => []
  | n + 1, l => match l with | [] => [] | v :: r => v :: takeL n r
def dropL : Nat → List Value → List Value
  | 0, l => l
  | n + 1, l => match l with | [] => [] | _ :: r => dropL n r
def lenL : List Value → Nat
  | [] => 0
  | _ :: r => (lenL r).succ
/-- cells vs written over l from off on -/
def putL : List Value → Nat → List Value → Option (List Value)
  | l, 0, [] => some l
  | [], _, _ :: _ => none
  | [], _ + 1, [] => none
  | _ :: r, 0, v :: vs => match putL r 0 vs with | some x => some (v :: x) | none => none
  | c :: r, n + 1, vs => match putL r n vs with | some x => some (c :: x) | none => none

/-! ### One operation -/
def wint (P : Program) (s : List Ch) (op : BinOp) (ty : Nat) (i : IntKind) (x y : Int) (q : TV → Prop) : Prop := match op with
  | .add => NeedW i (x + y) fun z => q (.v (.int i z))
  | .sub => NeedW i (x - y) fun z => q (.v (.int i z))
  | .mul => NeedW i (x * y) fun z => q (.v (.int i z))
  | .eql => q (.v (.bool (decide (x = y))))
  | .neq => q (.v (.bool (decide (x ≠ y))))
  | .lss => q (.v (.bool (decide (x < y))))
  | .leq => q (.v (.bool (decide (x ≤ y))))
  | .gtr => q (.v (.bool (decide (x > y))))
  | .geq => q (.v (.bool (decide (x ≥ y))))
  | op => NeedQ P s (binOp op ty (.int i x) (.int i y)) q
def isLit : Operand → Bool | .const _ => true | _ => false
def wbin (P : Program) (s : List Ch) (op : BinOp) (ty : Nat) (xo yo : Operand) (a b : Value) (q : TV → Prop) : Prop := match a, b with
  | .int i x, .int j y => match decide (i = j) with | true => wint P s op ty i x y q | false => NeedQ P s (do eqGuard op ty xo yo a b; binOp op ty a b) q
  | a, b => NeedQ P s (do eqGuard op ty xo yo a b; binOp op ty a b) q

def loadBox (X : Ctx) (T : Nat) (cs : List Value) (off : Nat) (q : TV → Prop) : Prop := match tget X.tt T with
  | some ti => match ti.agg with
    | true => match Nat.ble (off + ti.size) (lenL cs) with
      | true => forceL (takeL ti.size (dropL off cs)) fun vs => q (.v (.agg vs.toArray))
      | false => False
    | false => match lget cs off with | some v => q (.v v) | none => False
  | none => False

/-- the cells of a value whose head is seen -/
def cellsOf (v : Value) (q : List Value → Prop) : Prop := match v with
  | .agg ⟨cs⟩ => forceL cs q
  | .tuple _ => False
  | .bool b => q [.bool b]
  | .int k n => q [.int k n]
  | .float k n => q [.float k n]
  | .complex k n m => q [.complex k n m]
  | .string x => q [.string x]
  | .pointer x => q [.pointer x]
  | .slice a n c => q [.slice a n c]
  | .map r => q [.map r]
  | .chan r => q [.chan r]
  | .func f x y => q [.func f x y]
  | .nilFunc => q [.nilFunc]
  | .iface t v => q [.iface t v]
  | .nilIface => q [.nilIface]
def wbuild (s : List Ch) (t : Tm) (place : Nat → Option (Nat × Nat)) : List (Nat × Operand) → List Value → (List Value → Prop) → Prop
  | [], cs, q => forceL cs q
  | (i, x) :: r, cs, q => val s t x fun v => cellsOf v fun vs => match place i with
    | some (off, size) => match Nat.beq (lenL vs) size with
      | true => match putL cs off vs with | some cs' => wbuild s t place r cs' q | none => False
      | false => False
    | none => False

def known (X : Ctx) : List (Nat × Nat) → Bool
  | [] => true
  | (_, ft) :: r => match tget X.tt ft with | some _ => known X r | none => false
/-- the operations that only read -/
def wq (X : Ctx) (s : List Ch) (t : Tm) (op : Op) (q : TV → Prop) : Prop := match op with
  | .move x | .assign x => tvk s t x q
  | .pick c a b => val s t c fun cv => match cv with
    | .bool b' => ifb (tvk s t a q) (tvk s t b q) b'
    | _ => False
  | .load T a => tvk s t a fun tv => match tv with
    | .bx i off => match sget s i with
      | some (.box _ cs _) => loadBox X T cs off q
      | _ => False
    | .v p => NeedQ X.P s (Instr.loadAt T p) q
    | _ => False
  | .nilCheck x => tvk s t x fun tv => match tv with
    | .bx i off => q (.bx i off)
    | .v (.pointer (some p)) => q (.v (.pointer (some p)))
    | _ => False
  | .binOp o ty x y _ => val s t x fun a => val s t y fun b => wbin X.P s o ty x y a b q
  | .unOp o _ x => val s t x fun a => match o, a with
    | .not, .bool b => q (.v (.bool (!b)))
    | .neg, .int k n => NeedW k (0 - n) fun z => q (.v (.int k z))
    | o, a => NeedQ X.P s (Op.unary o a) q
  | .convert S T x => val s t x fun a => match a, tget X.tt S, tget X.tt T with
    | .int _ n, some ⟨.int _, _, _, _⟩, some ⟨.int k, _, _, _⟩ => NeedW k n fun z => q (.v (.int k z))
    | a, _, _ => NeedQ X.P s (convert S T a) q
  | .fieldAddr S x f => tvk s t x fun tv => match tget X.tt S with
    | some ⟨.st fs, _, _, _⟩ => match lget fs f with
      | some (fo, ft) => match tget X.tt ft with
        | some ⟨_, .succ _, _, _⟩ => match tv with
          | .bx i off => q (.bx i (off + fo))
          | .v (.pointer (some ⟨b, off, none⟩)) => q (.v (.pointer (some ⟨b, off + fo, none⟩)))
          | _ => False
        | _ => False
      | none => False
    | _ => False
  | .field S x f => val s t x fun a => match a, tget X.tt S with
    | .agg ⟨cs⟩, some ⟨.st fs, _, _, _⟩ => match lget fs f with
      | some (fo, ft) => loadBox X ft cs fo q
      | none => False
    | _, _ => False
  | .indexAddr S x ix => val s t ix fun iv => tvk s t x fun tv => match tget X.tt S with
    | some ⟨.ar len e, _, _, _⟩ => match tget X.tt e, iv with
      | some te, .int _ n => match tv with
        | .bx i off => match n with
          | .ofNat m => match Nat.blt m len with
            | true => q (.bx i (off + m * te.size))
            | false => valk s tv fun a => NeedQ X.P s (Instr.indexAt S a iv) q
          | _ => valk s tv fun a => NeedQ X.P s (Instr.indexAt S a iv) q
        | tv => valk s tv fun a => NeedQ X.P s (Instr.indexAt S a iv) q
      | _, _ => False
    | _ => valk s tv fun a => NeedQ X.P s (Instr.indexAt S a iv) q
  | .index S x ix => val s t ix fun iv => val s t x fun a => NeedQ X.P s (Instr.index S a iv) q
  | .extract x i => val s t x fun a => match a with
    | .tuple ⟨vs⟩ => match lget vs i with | some v => q (.v v) | none => False
    | _ => False
  | .slice S x lo hi mx => val s t x fun a => vals s t lo.toList fun lo' => vals s t hi.toList fun hi' => vals s t mx.toList fun mx' =>
      NeedQ X.P s (Instr.sliceAt S a lo'.head? hi'.head? mx'.head?) q
  | .makeFunc fn first cap => vals s t first.toList fun f => vals s t cap.toList fun c => q (.v (.func fn f.toArray c.toArray))
  | .makeInterface T x => val s t x fun a => match tget X.tt T with
    | some _ => NeedQ X.P s (Instr.makeInterface T a) q
    | none => False
  | .build T ⟨parts⟩ => match tget X.tt T with
    | some ⟨.st fs, _, _, z⟩ => match known X fs with
      | false => False
      | true => wbuild s t (fun i => match lget fs i with | some (off, ft) => (match tget X.tt ft with | some tf => some (off, tf.size) | none => none) | none => none) parts z fun cs => q (.v (.agg cs.toArray))
    | some ⟨.ar _ e, _, _, z⟩ => (match tget X.tt e with | some te => wbuild s t (fun i => some (i * te.size, te.size)) parts z fun cs => q (.v (.agg cs.toArray)) | none => False)
    | _ => False
  | .call ⟨.builtin .len, ⟨[x]⟩, ⟨[T]⟩⟩ => tvk s t x fun tv => match tget X.tt T with
    | some ⟨.sl _, _, _, _⟩ => match tv with
      | .v (.slice _ n _) => q (.v (.int .i64 n))
      | .bs _ n => q (.v (.int .i64 n))
      | _ => False
    | some ⟨.str, _, _, _⟩ => match tv with
      | .v (.string b) => q (.v (.int .i64 b.size))
      | _ => False
    | _ => False
  | _ => False

def isQ : Op → Bool
  | .move _ | .assign _ | .pick _ _ _ | .load _ _ | .nilCheck _ | .binOp _ _ _ _ _ | .unOp _ _ _ | .convert _ _ _ | .fieldAddr _ _ _ | .field _ _ _
  | .indexAddr _ _ _ | .index _ _ _ | .extract _ _ | .slice _ _ _ _ _ | .makeFunc _ _ _ | .makeInterface _ _ | .build _ _ => true
  | .call ⟨.builtin .len, ⟨[_]⟩, ⟨[_]⟩⟩ => true
  | _ => false
end Go.Dw
