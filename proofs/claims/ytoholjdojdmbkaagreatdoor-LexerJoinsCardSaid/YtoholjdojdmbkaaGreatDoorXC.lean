/- Parts of one proof, joined: G1, G2, G3, G4. No condition of its own. -/
import Derived.Test.YtoholjdojdmbkaaGreatDoorXB
import Derived.Laws.StructEq
import Derived.WalkSpells
namespace Go.Proofs.YtoholjdojdmbkaaGreatDoor
open Go Go.RowKit Go.Dw

/-- a call that hands back v, and makes nothing that is kept -/
abbrev RetV (w : World) (v : Value) : Ending → World → Prop := Ret w fun u cs => u = v ∧ cs = []
theorem callV {P : Program} {s : List Ch} {f : Nat} {args : List Value} {q : TV → List Ch → Prop} (v : Value)
    (h : ∀ w, Mem s w → CallsE P f args.toArray w (RetV w v)) (k : q (.v v) s) : NeedF P s f args q := by
  refine call h ?_
  rintro _ _ ⟨rfl, rfl⟩
  rwa [List.append_nil]

def cmpI (x y : Int) : Int := if x < y then -1 else if x > y then 1 else 0
def orI : List Int → Int
  | [] => 0
  | x :: r => if x = 0 then orI r else x
theorem orI_drop (L : List Int) : ∀ k (h : k < L.length), L[k] = 0 → orI (L.drop k) = orI (L.drop (k + 1)) := by
  intro k h h0
  rw [List.drop_eq_getElem_cons h]
  simp [orI, h0]

end Go.Proofs.YtoholjdojdmbkaaGreatDoor
namespace Go.Proofs.YtoholjdojdmbkaaGreatDoor
open Go Go.RowKit Go.Dw

theorem bool_pair (a b c d : Int) : (if (!(a == c)) = true then false else if (!(b == d)) = true then false else true) = decide ((a, b) = (c, d)) := by
  by_cases h1 : a = c <;> by_cases h2 : b = d <;> simp [h1, h2]

theorem take_eq_of {α : Type} {L L' : List α} {k : Nat} (h1 : L.length ≤ k) (h2 : L'.length ≤ k) (h : L.take k = L'.take k) : L = L' := by
  rw [← List.take_of_length_le h1, ← List.take_of_length_le h2, h]
theorem take_eq_step {α : Type} {L L' : List α} {k : Nat} (h1 : k < L.length) (h2 : k < L'.length) (h : L.take k = L'.take k) (e : L[k] = L'[k]) : L.take (k + 1) = L'.take (k + 1) := by
  rw [List.take_succ_eq_append_getElem h1, List.take_succ_eq_append_getElem h2, h, e]

/-- the first place of x in L, or -1 -/
def idxOf {α : Type} [DecidableEq α] (x : α) : List α → Int
  | [] => -1
  | y :: r => if x = y then 0 else (if idxOf x r < 0 then -1 else idxOf x r + 1)
theorem idxOf_ge {α : Type} [DecidableEq α] (x : α) : ∀ L : List α, -1 ≤ idxOf x L
  | [] => by simp [idxOf]
  | y :: r => by have := idxOf_ge x r; simp only [idxOf]; split <;> (try split) <;> omega
theorem idxOf_mem {α : Type} [DecidableEq α] (x : α) : ∀ L : List α, 0 ≤ idxOf x L ↔ x ∈ L
  | [] => by simp [idxOf]
  | y :: r => by
    have ih := idxOf_mem x r
    have hg := idxOf_ge x r
    simp only [idxOf, List.mem_cons]
    split
    · rename_i h; simp [h]
    · rename_i h
      split
      · rename_i h2
        have : ¬ x ∈ r := fun hm => by have := ih.2 hm; omega
        simp [h, this]
      · rename_i h2
        have : x ∈ r := ih.1 (by omega)
        simp [h, this]; omega
theorem idxOf_skip {α : Type} [DecidableEq α] (x : α) : ∀ (L : List α) (k : Nat), (∀ y ∈ L.take k, x ≠ y) → k ≤ L.length → idxOf x L = if idxOf x (L.drop k) < 0 then -1 else idxOf x (L.drop k) + k
  | L, 0, _, _ => by
    have := idxOf_ge x L
    simp
    omega
  | [], k + 1, _, h => by simp at h
  | y :: r, k + 1, h, hk => by
    have h1 : x ≠ y := h y (by simp)
    have ih := idxOf_skip x r k (fun z hz => h z (by simp [hz])) (by simpa using hk)
    have hg := idxOf_ge x (r.drop k)
    simp only [idxOf, if_neg h1, List.drop_succ_cons]
    rw [ih]
    split <;> (try split) <;> omega
theorem idxOf_hit {α : Type} [DecidableEq α] (x : α) (L : List α) (k : Nat) (hk : k < L.length) (h : ∀ y ∈ L.take k, x ≠ y) (e : x = L[k]) : idxOf x L = k := by
  rw [idxOf_skip x L k h (Nat.le_of_lt hk), List.drop_eq_getElem_cons hk]
  simp [idxOf, e]
theorem idxOf_none {α : Type} [DecidableEq α] (x : α) (L : List α) (k : Nat) (hk : L.length ≤ k) (h : ∀ y ∈ L.take k, x ≠ y) : idxOf x L = -1 := by
  rw [List.take_of_length_le hk] at h
  have h1 := idxOf_ge x L
  have h2 := idxOf_mem x L
  have : ¬ 0 ≤ idxOf x L := fun h3 => h x (h2.1 h3) rfl
  omega
theorem take_all_step {α : Type} {P : α → Prop} {L : List α} {k : Nat} (hk : k < L.length) (h : ∀ y ∈ L.take k, P y) (e : P L[k]) : ∀ y ∈ L.take (k + 1), P y := by
  intro y hy
  rw [List.take_succ_eq_append_getElem hk] at hy
  rcases List.mem_append.1 hy with hy | hy
  · exact h y hy
  · have : y = L[k] := by simpa using hy
    rw [this]; exact e

end Go.Proofs.YtoholjdojdmbkaaGreatDoor
namespace Go.Proofs.YtoholjdojdmbkaaGreatDoor
open Go Go.RowKit Go.Dw

theorem qNilEq {T : Nat} {s : List Ch} {xo yo : Operand} {a : Option Addr} {n c : Nat} {q : TV → Prop} (hT : (elsz (cx 0) T).isSome = true) (h : q (.v (.bool a.isNone))) :
    NeedQ Tryz.prog s (do eqGuard .eql T xo yo (.slice a n c) (.slice none 0 0); binOp .eql T (.slice a n c) (.slice none 0 0)) q := by
  obtain ⟨⟨e, te⟩, hx⟩ := Option.isSome_iff_exists.1 hT
  have hu := (elsz_spec (cxg 0) hx).1
  refine ⟨_, fun w _ => ?_, h⟩
  have hun : (underlying T).run Tryz.prog w = .ok (.slice e) w := by simp [underlying, show Tryz.prog.underlying T = _ from hu]
  have hg : (eqGuard .eql T xo yo (.slice a n c) (.slice none 0 0)).run Tryz.prog w = .ok () w := by simp [eqGuard]
  rw [Sem.run_bind, hg]
  simp only [Result.andThen_ok, binOp, Sem.run_bind]
  have : (Op.equal T (.slice a n c) (.slice none 0 0)).run Tryz.prog w = .ok a.isNone w := by
    unfold Op.equal Op.maxDepth
    rw [show (10000 : Nat) = 9999 + 1 from rfl]
    unfold Op.equalIn
    simp only [Sem.run_bind, hun, Result.andThen_ok]
    cases a <;> simp
  rw [this]
  rfl

/-- lexicographic order of lists: -1, 0, 1 -/
def cmpL : List Int → List Int → Int
  | [], [] => 0
  | [], _ :: _ => -1
  | _ :: _, [] => 1
  | x :: r, y :: t => if cmpI x y ≠ 0 then cmpI x y else cmpL r t
theorem cmpL_skip : ∀ (L L' : List Int) (k : Nat), L.take k = L'.take k → k ≤ L.length → k ≤ L'.length → cmpL L L' = cmpL (L.drop k) (L'.drop k)
  | _, _, 0, _, _, _ => by simp
  | [], _, k + 1, _, h, _ => by simp at h
  | _ :: _, [], k + 1, _, _, h => by simp at h
  | x :: r, y :: t, k + 1, h, h1, h2 => by
    simp only [List.take_succ_cons, List.cons.injEq] at h
    obtain ⟨rfl, h⟩ := h
    have := cmpL_skip r t k h (by simpa using h1) (by simpa using h2)
    simp [cmpL, cmpI, this]
theorem cmpI_zero {x y : Int} (h : cmpI x y = 0) : x = y := by
  unfold cmpI at h
  split at h
  · omega
  · split at h
    · omega
    · omega

/-- the first place where p holds, or -1 -/
def idxBy {α : Type} (p : α → Bool) : List α → Int
  | [] => -1
  | y :: r => if p y then 0 else (if idxBy p r < 0 then -1 else idxBy p r + 1)
theorem idxBy_ge {α : Type} (p : α → Bool) : ∀ L : List α, -1 ≤ idxBy p L
  | [] => by simp [idxBy]
  | y :: r => by have := idxBy_ge p r; simp only [idxBy]; split <;> (try split) <;> omega
theorem idxBy_any {α : Type} (p : α → Bool) : ∀ L : List α, decide (0 ≤ idxBy p L) = L.any p
  | [] => by simp [idxBy]
  | y :: r => by
    have ih := idxBy_any p r
    have hg := idxBy_ge p r
    simp only [idxBy, List.any_cons, ← ih]
    split
    · rename_i h; simp [h]
    · rename_i h
      simp only [h, Bool.false_or]
      split
      · rename_i h2; simp; omega
      · rename_i h2; simp; omega
theorem idxBy_skip {α : Type} (p : α → Bool) : ∀ (L : List α) (k : Nat), (∀ y ∈ L.take k, p y = false) → k ≤ L.length → idxBy p L = if idxBy p (L.drop k) < 0 then -1 else idxBy p (L.drop k) + k
  | L, 0, _, _ => by
    have := idxBy_ge p L
    simp
    omega
  | [], k + 1, _, h => by simp at h
  | y :: r, k + 1, h, hk => by
    have h1 : p y = false := h y (by simp)
    have ih := idxBy_skip p r k (fun z hz => h z (by simp [hz])) (by simpa using hk)
    have hg := idxBy_ge p (r.drop k)
    simp only [idxBy, h1, List.drop_succ_cons]
    rw [ih]
    simp
    split <;> (try split) <;> omega
theorem idxBy_hit {α : Type} (p : α → Bool) (L : List α) (k : Nat) (hk : k < L.length) (h : ∀ y ∈ L.take k, p y = false) (e : p L[k] = true) : idxBy p L = k := by
  rw [idxBy_skip p L k h (Nat.le_of_lt hk), List.drop_eq_getElem_cons hk]
  simp [idxBy, e]
theorem idxBy_none {α : Type} (p : α → Bool) (L : List α) (k : Nat) (hk : L.length ≤ k) (h : ∀ y ∈ L.take k, p y = false) : idxBy p L = -1 := by
  rw [idxBy_skip p L L.length (by rw [List.take_of_length_le (Nat.le_refl _)]; rwa [List.take_of_length_le hk] at h) (Nat.le_refl _)]
  simp [idxBy]

end Go.Proofs.YtoholjdojdmbkaaGreatDoor
namespace Go.Proofs.YtoholjdojdmbkaaGreatDoor
open Go Go.RowKit Go.Dw

theorem flatLen {α : Type} {f : α → List Value} {sz : Nat} (hf : ∀ x, (f x).length = sz) : ∀ L : List α, (L.flatMap f).length = L.length * sz
  | [] => by simp
  | x :: r => by rw [List.flatMap_cons, List.length_append, hf, flatLen hf r, List.length_cons, Nat.succ_mul]; omega
/-- a new variable's block, read as a slice -/
theorem Sl.box {α : Type} {f : α → List Value} {sz : Nat} (hf : ∀ x, (f x).length = sz) (h0 : 0 < sz) {b T : Nat} {cs : List Value} {w : World} (hh : (Ch.box b cs T).h.In w) (L : List α) {n : Nat} (hL : cs = L.flatMap f) (hn : n = L.length) (hl : L.length < 1000000) :
    Sl (encF f) sz (Hp.whole w) (some ⟨b, 0, none⟩) n n L := by
  subst hL hn
  have hl := flatLen hf L
  refine Sl.mono (encF_mono _) hh (OwnL.sl (T := T) hf h0 ⟨rfl, hl, .inr ⟨b, _, rfl, Hp.one_self _ _, Nat.le_refl _, by unfold maxLen; omega, by simpa using hl, ?_⟩⟩)
  exact List.take_of_length_le (Nat.le_of_eq hl)

def beyondF (n k : Int) : Bool := decide (k < 0) || decide (k ≥ n)
def orderF (a b : Int × Int) : Int := if cmpI a.1 b.1 ≠ 0 then cmpI a.1 b.1 else cmpI a.2 b.2
def sortedF (E : List (Int × Int)) : Bool := (List.range (E.length - 1)).all fun i => decide (orderF (E.getD i (0, 0)) (E.getD (i + 1) (0, 0)) < 0)
def outF (N : Int) (e : Int × Int) : Bool := beyondF N e.1 || beyondF N e.2
def checkF (N : Int) (E : List (Int × Int)) : Int :=
  if N < 0 ∨ N > 64 then 2 else if (E.length : Int) > N * N then 6 else if E.any (outF N) then 2 else if sortedF E then 0 else 8
def gv (N : Int) (a : Option Addr) (n c : Nat) : Value := .agg #[.int .i64 N, .slice a n c]
theorem any_step {α : Type} {p : α → Bool} {L : List α} {k : Nat} (hk : k < L.length) (h : (L.take k).any p = false) (e : p L[k] = false) : (L.take (k + 1)).any p = false := by
  rw [List.take_succ_eq_append_getElem hk, List.any_append, h, List.any_cons, e]
  rfl
theorem any_hit {α : Type} {p : α → Bool} {L : List α} {k : Nat} (hk : k < L.length) (e : p L[k] = true) : L.any p = true := List.any_eq_true.2 ⟨_, List.getElem_mem hk, e⟩
end Go.Proofs.YtoholjdojdmbkaaGreatDoor
