/- A layer over the wp of loaded Go code: operations that write, regions, code; what they mean. No condition. -/
import Derived.Test.YtdjhgcpmipglfaaDw2
namespace Go.Dw
open Go Go.RowKit

/-- A function that is entered, and what its call comes to. -/
def CallsE (P : Program) (f : Nat) (args : Array Value) (w : World) (R : Ending → World → Prop) : Prop :=
  (∀ w, (callFunc f args).run P w = .ok (.enter f args) w) ∧ Calls P f args w R

inductive NeedA (P : Program) (s : List Ch) (tys : Array TypeId) (ty : Nat) (x : Value) (y : TV) (q : TV → List Ch → Prop) : Prop
  | mk (yv : Value) (hy : y.val s = some yv) (h : NeedE P s (Builtin.append_ tys ty #[x, yv]) q)
/-- a call of a Go function -/
inductive NeedF (P : Program) (s : List Ch) (f : Nat) (args : List Value) (q : TV → List Ch → Prop) : Prop
  | mk (h : ∀ w0 w, Ok w0 s w → CallsE P f args.toArray w fun e w' => ∃ v s', e = .returned v ∧ Ok w0 s' w' ∧ Keep s s' ∧ q (.v v) s')

def allOne : List Value → Bool
  | [] => true
  | v :: r => match v.oneCell' with | true => allOne r | false => false
def repL : Nat → List Value → List Value
  | 0, _ => []
  | n + 1, z => z ++ repL n z

/-- the operations that write or make memory -/
def we (X : Ctx) (s : List Ch) (t : Tm) (ty : Nat) (op : Op) (q : TV → List Ch → Prop) : Prop := match op with
  | .alloc T => match tget X.tt T with
    | some ti => ∀ b, q (.bx s.length 0) (s ++ [.box b ti.zero T])
    | none => False
  | .box T x => val s t x fun v => cellsOf v fun cs => ∀ b, q (.bx s.length 0) (s ++ [.box b cs T])
  | .store T a x => tvk s t a fun tv => val s t x fun v => match tv with
    | .bx i off => match sget s i with
      | some (.box b cs T') => cellsOf v fun vs => match allOne vs with
        | true => match tget X.tt T with
          | some ti => match Nat.beq (lenL vs) ti.size with
            | true => match putL cs off vs with
              | some cs' => forceL cs' fun cs' => q (.v undef) (sset s i (.box b cs' T'))
              | none => False
            | false => False
          | none => False
        | false => False
      | _ => False
    | .v p => NeedU X.P s (Instr.storeAt T p v) fun s' => q (.v undef) s'
    | _ => False
  | .buildSlice T n ⟨parts⟩ => match tget X.tt T with
    | some ⟨.sl e, _, _, _⟩ => match tget X.tt e with
      | some te => match Nat.ble (n * te.size) 16777216 with
        | true => wbuild s t (fun i => some (i * te.size, te.size)) parts (repL n te.zero) fun cs => ∀ b, q (.bs s.length n) (s ++ [.box b cs e])
        | false => False
      | none => False
    | _ => False
  | .makeSlice T l c => val s t l fun l => val s t c fun c => NeedE X.P s (Instr.makeSlice T l c) q
  | .call ⟨.builtin .append, ⟨[x, y]⟩, tys⟩ => val s t x fun x => tvk s t y fun y => NeedA X.P s tys ty x y q
  | .call ⟨.builtin b, ⟨args⟩, tys⟩ => vals s t args fun args => match b with
    | .copy => NeedE X.P s (Builtin.copy_ tys ty args.toArray) q
    | .min => NeedE X.P s (Builtin.min_ tys ty args.toArray) q
    | .max => NeedE X.P s (Builtin.max_ tys ty args.toArray) q
    | .clear => NeedE X.P s (Builtin.clear_ tys ty args.toArray) q
    | .cap => NeedE X.P s (Builtin.cap_ tys ty args.toArray) q
    | _ => False
  | .call ⟨.value f, ⟨args⟩, _⟩ => tvk s t f fun fv => vals s t args fun args => match fv with
    | .v (.func (.func f) ⟨first⟩ ⟨cap⟩) => forceL (first ++ args ++ cap) fun args => NeedF X.P s f args q
    | _ => False
  | _ => False

def putk (n : Nat) (t : Tm) (dst : Option Nat) (tv : TV) (q : Tm → Prop) : Prop := match dst with
  | none => q t
  | some d => match Nat.blt d n with | true => q ((d, tv) :: t) | false => False
def wop (X : Ctx) (s : List Ch) (t : Tm) (o : Oper) (q : TV → List Ch → Prop) : Prop := match isQ o.op with
  | true => wq X s t o.op fun tv => q tv s
  | false => we X s t o.type o.op q
/-- the guard's slot -/
def gslot (all : List Oper) (j : Nat) : Option Nat := match lget all j with | some o => o.dst | none => none
/-- Is it wanted? The guard's slot is known on either way. -/
def wguard (all : List Oper) (o : Oper) (t : Tm) (yes no : Tm → Prop) : Prop := match o.guard with
  | none => yes t
  | some (j, want) => match gslot all j with
    | some d => match aget t d with
      | some (.v (.bool b)) => ifb (match want with | true => yes ((d, .v (.bool true)) :: t) | false => no ((d, .v (.bool true)) :: t))
          (match want with | true => no ((d, .v (.bool false)) :: t) | false => yes ((d, .v (.bool false)) :: t)) b
      | some (.v (.tuple _)) => no t
      | _ => False
    | none => False
def wops (X : Ctx) (all : List Oper) : List Oper → (Tm → List Ch → Prop) → Tm → List Ch → Prop
  | [], q, t, s => q t s
  | o :: r, q, t, s => wguard all o t
      (fun t => wop X s t o fun tv s' => putk X.n t o.dst tv fun t' => wops X all r q t' s')
      (fun t => putk X.n t o.dst (.v undef) fun t' => wops X all r q t' s)

inductive Ex where | normal | exit (id : Nat) | ret
/-- t', s' say no more than t, s. -/
def Fr (n : Nat) (t : Tm) (s : List Ch) (a : Act) : Prop := a.tmps.size = n ∧ a.defers = [] ∧ ∀ i tv, aget t i = some tv → ∃ v, tv.val s = some v ∧ a.tmps[i]? = some v
def Ent (t : Tm) (s : List Ch) (t' : Tm) (s' : List Ch) : Prop := ∀ n w0 w a, Ok w0 s w → Fr n t s a → Ok w0 s' w ∧ Fr n t' s' a
/-- there is a world that holds the chunks s -/
def Sat (s : List Ch) : Prop := ∃ w0 w, Ok w0 s w
inductive NeedL (body : (Ex → Tm → List Ch → Prop) → Tm → List Ch → Prop) (Q : Ex → Tm → List Ch → Prop) (t : Tm) (s : List Ch) : Prop
  | mkS (G : Type) (I : G → Tm) (S : G → List Ch) (R : G → Prop) (m : G → Nat) (g0 : G) (h0 : R g0) (e0 : Ent t s (I g0) (S g0))
      (round : ∀ g, R g → Sat (S g) → body (fun e t' s' => match e with | .normal => ∃ g', R g' ∧ m g' < m g ∧ Ent t' s' (I g') (S g') | e => Q e t' s') (I g) (S g))
theorem NeedL.mk {body : (Ex → Tm → List Ch → Prop) → Tm → List Ch → Prop} {Q : Ex → Tm → List Ch → Prop} {t : Tm} {s : List Ch} (G : Type) (I : G → Tm) (S : G → List Ch) (R : G → Prop) (m : G → Nat) (g0 : G) (h0 : R g0) (e0 : Ent t s (I g0) (S g0))
    (round : ∀ g, R g → body (fun e t' s' => match e with | .normal => ∃ g', R g' ∧ m g' < m g ∧ Ent t' s' (I g') (S g') | e => Q e t' s') (I g) (S g)) : NeedL body Q t s :=
  NeedL.mkS G I S R m g0 h0 e0 fun g h _ => round g h
/-- An order of a region that draws: take (an operation that only reads), run (the one that may come up). -/
inductive NeedD (X : Ctx) (ops : List Oper) (Q : Tm → List Ch → Prop) (t : Tm) (s : List Ch) : Prop
  | mk (h : ∀ w0 w a (Q' : Exit → Act → World → Prop), Ok w0 s w → Fr X.n t s a → (∀ t s a w, Ok w0 s w → Fr X.n t s a → Q t s → Q' .normal a w) →
      (∀ c a w, ¬ Q' (.panic c) a w) → wpAny X.P .any ops.toArray Q' ops.toArray.size (Array.replicate ops.toArray.size false) a { w with drawn := w.drawn + 1 })

def WP (X : Ctx) : Code → (Ex → Tm → List Ch → Prop) → Tm → List Ch → Prop
  | .skip, Q, t, s => Q .normal t s
  | .label _, Q, t, s => Q .normal t s
  | .seq a b, Q, t, s => WP X a (fun e t s => match e with | .normal => WP X b Q t s | .exit i => Q (.exit i) t s | .ret => Q .ret t s) t s
  | .cond c x y, Q, t, s => tvk s t c fun tv => match tv with
    | .v (.bool b) => ifb (WP X x Q t s) (WP X y Q t s) b
    | _ => False
  | .block id c, Q, t, s => WP X c (fun e t s => match e with
    | .exit j => match Nat.beq j id with | true => Q .normal t s | false => Q (.exit j) t s
    | .normal => Q .normal t s
    | .ret => Q .ret t s) t s
  | .loop c, Q, t, s => NeedL (fun Q t s => WP X c Q t s) Q t s
  | .exit id, Q, t, s => Q (.exit id) t s
  | .ret, Q, t, s => Q .ret t s
  | .region _ ⟨ops⟩ false, Q, t, s => wops X ops ops (Q .normal) t s
  | .region _ ⟨ops⟩ true, Q, t, s => NeedD X ops (Q .normal) t s
  | _, _, _, _ => False
end Go.Dw
