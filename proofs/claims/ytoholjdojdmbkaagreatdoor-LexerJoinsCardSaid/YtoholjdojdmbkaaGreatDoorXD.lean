/- Parts of one proof, joined: Dwm, Dwn, Dwo, Dwp, Dwq, W1. No condition of its own. -/
import Derived.OrdersIn
import Derived.Test.YtoholjdojdmbkaaGreatDoorXB
import Derived.RangeFuncLeaves
import Derived.RangeFuncRecord
import Derived.RangeFuncSeq
import Derived.OrdersHeld
import Derived.Laws.Strings
import Derived.Laws.Cover1
import Derived.Laws.StructEq
import Derived.Lib.DecodeN
namespace Go.Dw
open Go Go.RowKit

/-- the fence that lets all in, in a round or outside -/
def F0 (r : Option Nat) : Fence := { Fence.wide with round := r }
/-- the activation, its deferred calls being ds -/
def wd (a : Act) (ds : List Deferred) : Act := { tmps := a.tmps, defers := ds }
def coll (ds : List Nat) : List Deferred := ds.map fun D => { target := .collected D, args := #[] }
theorem wd_eval (a : Act) (ds : List Deferred) : (wd a ds).eval = a.eval := by funext x; cases x <;> rfl
theorem wd_put (a : Act) (ds : List Deferred) (dst : Option Nat) (v : Value) : (wd a ds).put dst v = wd (a.put dst v) ds := by cases dst <;> rfl
theorem put_defers (a : Act) (dst : Option Nat) (v : Value) : (a.put dst v).defers = a.defers := by cases dst <;> rfl

theorem op_in {r : Option Nat} {ds : List Deferred} {P : Program} {o : Oper} {a : Act} {w : World} {K : Act → World → Prop} {Q' : Exit → Act → World → Prop}
    (h : o.wp P a w (fun a' w' => a'.defers = [] ∧ K (wd a' ds) w') (fun _ _ _ => False)) : o.wpIn (F0 r) 0 P (wd a ds) w K Q' := by
  refine ⟨fun _ _ => trivial, ?_⟩
  unfold Oper.wp at h
  by_cases hd : ∃ c, o.op = .defer c
  · obtain ⟨c, hc⟩ := hd
    exfalso
    simp only [execOp, hc, Sem.run_bind] at h
    cases hr : (resolve a.eval c o.type).run P w with
    | ok d w' =>
      simp only [hr, Result.andThen_ok, Sem.run_pure, Oper.upon_defer] at h
      have h1 := h.1
      rw [put_defers] at h1
      cases h1
    | halt x w' =>
      simp only [hr] at h
      cases x <;> exact h
  · have hs : o.semAt (F0 r).round (wd a ds).eval = execOp a.eval o := by
      rw [wd_eval]; exact Oper.semAt_eq _ _ _ fun c hc => hd ⟨c, hc⟩
    rw [hs]
    generalize (execOp a.eval o).run P w = res at *
    cases res with
    | ok x w' =>
      cases x <;> (try exact h.elim)
      case value v => rw [Oper.uponIn_value, wd_put]; exact h.2
      case skip => rw [Oper.uponIn_skip, wd_put]; exact h.2
      case enter f args =>
        refine ⟨nofun, CallsIn.mono (F := F0 r) (callsIn_wide.2 h) fun e w'' he => ?_⟩
        cases e with
        | returned v => dsimp only at he ⊢; rw [wd_put]; exact he.2
        | panicked chain => exact he.elim
        | outgrown => obtain ⟨_, _, hh⟩ := he; exact hh.elim
      case row row args =>
        refine ⟨nofun, fun c cs _ => ?_⟩
        obtain ⟨v, w'', h1, h2⟩ := h c cs
        exact ⟨v, w'', by dsimp only; rw [wd_put]; exact h1.2, stepsIn_wide.2 h2⟩
      case defer d => have h1 := h.1; rw [put_defers] at h1; cases h1
    | halt x w' => cases x <;> exact h.elim

/-- a call of yield -/
inductive NeedY (P : Program) (s : List Ch) (l : Nat) (args : List Value) (q : TV → List Ch → Prop) : Prop
  | mk (h : ∀ w0 w, Ok w0 s w → YieldAt Fence.wide 0 P l args.toArray w fun e w' => ∃ v s', e = .returned v ∧ Ok w0 s' w' ∧ Keep s s' ∧ q (.v v) s')
def wopY (X : Ctx) (s : List Ch) (t : Tm) (o : Oper) (q : TV → List Ch → Prop) : Prop := match o.op with
  | .call ⟨.value f, ⟨args⟩, _⟩ => (match opv t f with
    | some (.v (.func (.yield l) ⟨[]⟩ ⟨[]⟩)) => vals s t args fun args => NeedY X.P s l args q
    | _ => wop X s t o q)
  | .makeMap T none => NeedE X.P s (Instr.makeMap T none) q
  | .mapUpdate T m k x => val s t m fun m => val s t k fun k => val s t x fun x => NeedU X.P s (Instr.mapUpdate T m k x) fun s' => q (.v undef) s'
  | .lookup T m k ok => val s t m fun m => val s t k fun k => NeedE X.P s (Instr.lookup T m k ok) q
  | .convert S T x => (match tget X.tt T with
    | some ⟨.sl _, _, _, _⟩ => val s t x fun v => NeedE X.P s (convert S T v) q
    | _ => wop X s t o q)
  | _ => wop X s t o q
def wopsY (X : Ctx) (all : List Oper) : List Oper → (Tm → List Ch → Prop) → Tm → List Ch → Prop
  | [], q, t, s => q t s
  | o :: r, q, t, s => wguard all o t
      (fun t => wopY X s t o fun tv s' => putk X.n t o.dst tv fun t' => wopsY X all r q t' s')
      (fun t => putk X.n t o.dst (.v undef) fun t' => wopsY X all r q t' s)

section
variable {X : Ctx} {w0 : World} {r : Option Nat} {ds : List Deferred}
theorem wopY_ok (hX : X.Good) {t : Tm} {s : List Ch} {a : Act} {o : Oper} {q : TV → List Ch → Prop} (hf : Fr X.n t s a) (h : wopY X s t o q) {w : World} (hok : Ok w0 s w) {K : Act → World → Prop} {Q' : Exit → Act → World → Prop}
    (hK : ∀ tv v s' w', Ok w0 s' w' → Keep s s' → tv.val s' = some v → q tv s' → K (wd (a.put o.dst v) ds) w') : o.wpIn (F0 r) 0 X.P (wd a ds) w K Q' := by
  have eok : EOk X.P s o a q → o.wpIn (F0 r) 0 X.P (wd a ds) w K Q' := fun h =>
    op_in (h w0 w hok _ _ fun tv v s' w' h1 h2 h3 h4 => ⟨by rw [put_defers]; exact hf.2.1, hK tv v s' w' h1 h2 h3 h4⟩)
  have plain : wop X s t o q → o.wpIn (F0 r) 0 X.P (wd a ds) w K Q' := fun h => eok (wop_ok hX hf h)
  unfold wopY at h
  split at h
  · rename_i f args tys ho
    split at h
    · rename_i l hv
      obtain ⟨tv, h1, h2⟩ := hf.w.tvk (x := f) (q := fun tv => tv = .v (.func (.yield l) ⟨[]⟩ ⟨[]⟩)) (by unfold tvk; rw [hv]; exact rfl)
      subst h2
      simp only [TV.val, Option.some.injEq] at h1
      have h3 := hf.w.vals h
      obtain ⟨h4⟩ := h3
      obtain ⟨fn, tmps, assign, body, h5, h6⟩ := h4 w0 w hok
      refine ⟨fun _ _ => trivial, ?_⟩
      have hs : o.semAt (F0 r).round (wd a ds).eval = execOp a.eval o := by
        rw [wd_eval]; exact Oper.semAt_eq _ _ _ fun c hc => by rw [ho] at hc; cases hc
      have e : (execOp a.eval o).run X.P w = .ok (.round l fn tmps assign body) w := by
        have : (execOp a.eval o).run X.P w = (Instr.yield l (args.map a.eval).toArray).run X.P w := by
          simp [execOp, ho, resolve, Deferred.ofValue, invoke, ← h1]
        rw [this, h5]
      rw [hs, e]
      refine ⟨nofun, RoundIn.mono (F := F0 r) h6 fun e w' he => ?_⟩
      obtain ⟨v, s', rfl, h7, h8, h9⟩ := he
      dsimp only
      rw [wd_put]
      exact hK (.v v) v s' w' h7 h8 rfl h9
    · exact plain h
  · rename_i T ho
    exact eok (NeedE.ok h fun w => by simp only [execOp, ho]; rfl)
  · rename_i T m k x ho
    exact eok (NeedU.ok (hf.w.val (hf.w.val (hf.w.val h))) fun w => by simp only [execOp, ho])
  · rename_i T m k ok ho
    exact eok (NeedE.ok (hf.w.val (hf.w.val h)) fun w => by simp only [execOp, ho])
  · rename_i S T x ho
    split at h
    · exact eok (NeedE.ok (hf.w.val h) fun w => by simp only [execOp, ho])
    · exact plain h
  · exact plain h

theorem wopsY_ok (hX : X.Good) {all : List Oper} {Q : Exit → Act → World → Prop} {q : Tm → List Ch → Prop} (hQ : ∀ t s a w, Fr X.n t s a → Ok w0 s w → q t s → Q .normal (wd a ds) w) :
    ∀ (ops : List Oper) (t : Tm) (s : List Ch) (a : Act) (w : World), wopsY X all ops q t s → Fr X.n t s a → Ok w0 s w → wpListIn (F0 r) 0 X.P all.toArray Q ops (wd a ds) w
  | [], t, s, a, w, h, hf, hok => wpListIn_nil (hQ t s a w hf hok h)
  | o :: rest, t, s, a, w, h, hf, hok => by
    refine wpListIn_step fun K hK => ?_
    rcases wguard_sound hf h with ⟨hw, t', hf', hy⟩ | ⟨hw, t', hf', hn⟩
    · rw [if_pos (show Region.wanted o (yielded all.toArray (wd a ds).tmps) = true from hw)]
      refine wopY_ok hX hf' hy hok fun tv v s' w' hok' hk hv hp => ?_
      obtain ⟨t'', h1, h2⟩ := (hf'.keep hk).putk hv hp
      exact hK _ _ (wopsY_ok hX hQ rest t'' s' _ w' h1 h2 hok')
    · rw [if_neg (show ¬ Region.wanted o (yielded all.toArray (wd a ds).tmps) = true by rw [show (wd a ds).tmps = a.tmps from rfl, hw]; simp)]
      obtain ⟨t'', h1, h2⟩ := hf'.putk (tv := .v undef) rfl hn
      refine ⟨fun _ _ => trivial, ?_⟩
      rw [wd_put]
      exact hK _ _ (wopsY_ok hX hQ rest t'' s _ w h1 h2 hok)
end

/-- What a piece of code comes to, in chunks; ds: the blocks for the rounds' deferred calls. -/
abbrev QD := Ex → Tm → List Ch → List Nat → Prop
def concD (n : Nat) (w0 : World) (Q : QD) : Exit → Act → World → Prop
  | .normal, a, w => ∃ t s ds a0, a = wd a0 (coll ds) ∧ Fr n t s a0 ∧ Ok w0 s w ∧ Q .normal t s ds
  | .exit i, a, w => ∃ t s ds a0, a = wd a0 (coll ds) ∧ Fr n t s a0 ∧ Ok w0 s w ∧ Q (.exit i) t s ds
  | .ret, a, w => ∃ t s ds a0, a = wd a0 (coll ds) ∧ Fr n t s a0 ∧ Ok w0 s w ∧ Q .ret t s ds
  | _, _, _ => False
/-- An order of a region that draws, in a round or outside, with calls of yield. -/
inductive NeedDI (X : Ctx) (ops : List Oper) (Q : Tm → List Ch → Prop) (t : Tm) (s : List Ch) : Prop
  | mk (h : ∀ (r : Option Nat) ds w0 w a (Q' : Exit → Act → World → Prop), Ok w0 s w → Fr X.n t s a → (∀ t s a w, Ok w0 s w → Fr X.n t s a → Q t s → Q' .normal (wd a ds) w) →
      (∀ c a w, ¬ Q' (.panic c) a w) → wpAnyIn (F0 r) 0 X.P .any ops.toArray Q' ops.toArray.size (Array.replicate ops.toArray.size false) (wd a ds) { w with drawn := w.drawn + 1 })
/-- does the region call a yield that it has moved from a temporary? -/
def isYv : Option TV → Bool
  | some (.v (.func (.yield _) _ _)) => true
  | _ => false
def movesY (t : Tm) (f : Nat) : List Oper → Bool
  | [] => false
  | o :: r => (match o.dst, o.op with | some d, .move (.tmp j) => (match Nat.beq d f with | true => isYv (aget t j) | false => false) | _, _ => false) || movesY t f r
def yop (t : Tm) (all : List Oper) : List Oper → Bool
  | [] => false
  | o :: r => (match o.op with | .call ⟨.value (.tmp f), _, _⟩ => movesY t f all | _ => false) || yop t all r
/-- a range over a function -/
inductive NeedRF (X : Ctx) (g : Operand) (ps : Array Nat) (assign body : Code) (Q : QD) (t : Tm) (s : List Ch) (ds : List Nat) : Prop
  | mk (h : ∀ w0 w a, Fr X.n t s a → Ok w0 s w → (Code.rangeFunc g ps assign body).wpIn Fence.wide 0 X.P (concD X.n w0 Q) (wd a (coll ds)) w)
def sameDs (ds' ds : List Nat) (p : Prop) : Prop := match ds', ds with | [], [] => p | ds', ds => ds' = ds ∧ p
theorem sameDs_spec {ds' ds : List Nat} {p : Prop} (h : sameDs ds' ds p) : ds' = ds ∧ p := by
  unfold sameDs at h
  split at h
  · exact ⟨rfl, h⟩
  · exact h
def WPr (X : Ctx) (rd : Bool) : Code → QD → Tm → List Ch → List Nat → Prop
  | .skip, Q, t, s, ds => Q .normal t s ds
  | .label _, Q, t, s, ds => Q .normal t s ds
  | .seq a b, Q, t, s, ds => WPr X rd a (fun e t s ds => match e with | .normal => WPr X rd b Q t s ds | .exit i => Q (.exit i) t s ds | .ret => Q .ret t s ds) t s ds
  | .cond c x y, Q, t, s, ds => tvk s t c fun tv => match tv with
    | .v (.bool b) => ifb (WPr X rd x Q t s ds) (WPr X rd y Q t s ds) b
    | _ => False
  | .block id c, Q, t, s, ds => WPr X rd c (fun e t s ds => match e with
    | .exit j => match Nat.beq j id with | true => Q .normal t s ds | false => Q (.exit j) t s ds
    | .normal => Q .normal t s ds
    | .ret => Q .ret t s ds) t s ds
  | .loop c, Q, t, s, ds => NeedL (fun Q t s => WPr X rd c (fun e t' s' ds' => sameDs ds' ds (Q e t' s')) t s ds) (fun e t s => Q e t s ds) t s
  | .exit id, Q, t, s, ds => Q (.exit id) t s ds
  | .ret, Q, t, s, ds => Q .ret t s ds
  | .region _ ⟨ops⟩ false, Q, t, s, ds => wopsY X ops ops (fun t s => Q .normal t s ds) t s
  | .region _ ⟨ops⟩ true, Q, t, s, ds => match rd, ds with
    | false, [] => (match yop t ops ops with | true => NeedDI X ops (fun t s => Q .normal t s []) t s | false => NeedD X ops (fun t s => Q .normal t s []) t s)
    | _, _ => NeedDI X ops (fun t s => Q .normal t s ds) t s
  | .rangeFunc g ps x b, Q, t, s, ds => match rd with | false => NeedRF X g ps x b Q t s ds | true => False
  | _, _, _, _, _ => False

theorem WPr_sound {X : Ctx} (hX : X.Good) {w0 : World} {r : Option Nat} {rd : Bool} (hrd : rd = false → r = none) : ∀ (c : Code) (Q : QD) (t : Tm) (s : List Ch) (ds : List Nat) (a : Act) (w : World),
    WPr X rd c Q t s ds → Fr X.n t s a → Ok w0 s w → c.wpIn (F0 r) 0 X.P (concD X.n w0 Q) (wd a (coll ds)) w := by
  intro c
  induction c with
  | skip => intro Q t s ds a w h hf hok; exact wpIn_skip ⟨t, s, ds, a, rfl, hf, hok, h⟩
  | label l => intro Q t s ds a w h hf hok; exact wpIn_label ⟨t, s, ds, a, rfl, hf, hok, h⟩
  | exit id => intro Q t s ds a w h hf hok; exact wpIn_exit ⟨t, s, ds, a, rfl, hf, hok, h⟩
  | ret => intro Q t s ds a w h hf hok; exact wpIn_ret ⟨t, s, ds, a, rfl, hf, hok, h⟩
  | refuse why => intro Q t s ds a w h hf hok; exact h.elim
  | goto l => intro Q t s ds a w h hf hok; exact h.elim
  | scope b ih => intro Q t s ds a w h hf hok; exact h.elim
  | rangeFunc f ps x b ih1 ih2 =>
    intro Q t s ds a w h hf hok
    cases rd with
    | true => exact h.elim
    | false =>
      cases hrd rfl
      obtain ⟨h⟩ := h
      exact h w0 w a hf hok
  | seq x y ihx ihy =>
    intro Q t s ds a w h hf hok
    refine wpIn_seq (wpIn_mono (ihx _ t s ds a w h hf hok) fun e a' w' hq => ?_)
    cases e with
    | normal => obtain ⟨t', s', ds', a0, rfl, h1, h2, h3⟩ := hq; exact ihy Q t' s' ds' a0 w' h3 h1 h2
    | exit i => obtain ⟨t', s', ds', a0, rfl, h1, h2, h3⟩ := hq; exact ⟨t', s', ds', a0, rfl, h1, h2, h3⟩
    | ret => obtain ⟨t', s', ds', a0, rfl, h1, h2, h3⟩ := hq; exact ⟨t', s', ds', a0, rfl, h1, h2, h3⟩
    | goto l => exact hq.elim
    | panic c => exact hq.elim
    | outgrown => exact hq.elim
  | cond c x y ihx ihy =>
    intro Q t s ds a w h hf hok
    obtain ⟨tv, h1, h2⟩ := hf.w.tvk h
    cases tv with
    | bx _ _ => exact h2.elim
    | bs _ _ => exact h2.elim
    | v v =>
      simp only [TV.val, Option.some.injEq] at h1
      cases v <;> try exact h2.elim
      rename_i b
      refine wpIn_cond (t := b) (by rw [wd_eval]; exact h1.symm) ?_
      cases b with
      | true => exact ihx Q t s ds a w h2 hf hok
      | false => exact ihy Q t s ds a w h2 hf hok
  | block id c ih =>
    intro Q t s ds a w h hf hok
    refine wpIn_block (wpIn_mono (ih _ t s ds a w h hf hok) fun e a' w' hq => ?_)
    cases e with
    | normal => obtain ⟨t', s', ds', a0, rfl, h1, h2, h3⟩ := hq; exact ⟨t', s', ds', a0, rfl, h1, h2, h3⟩
    | exit i =>
      obtain ⟨t', s', ds', a0, rfl, h1, h2, h3⟩ := hq
      simp only [Exit.inBlock]
      by_cases hi : i = id
      · subst hi
        rw [if_pos rfl]
        simp only [Nat.beq_refl] at h3
        exact ⟨t', s', ds', a0, rfl, h1, h2, h3⟩
      · rw [if_neg hi]
        have : Nat.beq i id = false := by cases e : Nat.beq i id with
          | false => rfl
          | true => exact absurd (Nat.eq_of_beq_eq_true e) hi
        simp only [this] at h3
        exact ⟨t', s', ds', a0, rfl, h1, h2, h3⟩
    | ret => obtain ⟨t', s', ds', a0, rfl, h1, h2, h3⟩ := hq; exact ⟨t', s', ds', a0, rfl, h1, h2, h3⟩
    | goto l => exact hq.elim
    | panic c => exact hq.elim
    | outgrown => exact hq.elim
  | loop c ih =>
    intro Q t s ds a w h hf hok
    obtain ⟨G, I, S, R, m, g0, h0, e0, round⟩ := h
    refine wpIn_loop (fun a w => ∃ n, ∃ g a0, a = wd a0 (coll ds) ∧ R g ∧ m g = n ∧ Ok w0 (S g) w ∧ Fr X.n (I g) (S g) a0) (fun a w => leastOf fun n => ∃ g a0, a = wd a0 (coll ds) ∧ R g ∧ m g = n ∧ Ok w0 (S g) w ∧ Fr X.n (I g) (S g) a0)
      ⟨m g0, g0, a, rfl, h0, rfl, (e0 _ w0 w a hok hf).1, (e0 _ w0 w a hok hf).2⟩ ?_
    intro a w hI
    obtain ⟨g, a0, rfl, hR, hm, hok, hf⟩ := (leastOf_spec hI).1
    refine wpIn_mono (ih _ _ _ _ a0 w (round g hR ⟨w0, w, hok⟩) hf hok) fun e a' w' hq => ?_
    cases e with
    | normal =>
      obtain ⟨t', s', ds', a1, rfl, h1, h2, hs⟩ := hq
      obtain ⟨rfl, g', h3, h4, h5⟩ := sameDs_spec hs
      have key : ∃ g a0, wd a1 (coll ds') = wd a0 (coll ds') ∧ R g ∧ m g = m g' ∧ Ok w0 (S g) w' ∧ Fr X.n (I g) (S g) a0 := ⟨g', a1, rfl, h3, rfl, (h5 _ w0 w' a1 h2 h1).1, (h5 _ w0 w' a1 h2 h1).2⟩
      exact ⟨⟨_, key⟩, Nat.lt_of_le_of_lt ((leastOf_spec (p := fun n => ∃ g a0, wd a1 (coll ds') = wd a0 (coll ds') ∧ R g ∧ m g = n ∧ Ok w0 (S g) w' ∧ Fr X.n (I g) (S g) a0) ⟨_, key⟩).2 _ key) (by rw [← hm]; exact h4)⟩
    | exit i => obtain ⟨t', s', ds', a1, rfl, h1, h2, hs⟩ := hq; obtain ⟨rfl, h3⟩ := sameDs_spec hs; exact ⟨t', s', ds', a1, rfl, h1, h2, h3⟩
    | ret => obtain ⟨t', s', ds', a1, rfl, h1, h2, hs⟩ := hq; obtain ⟨rfl, h3⟩ := sameDs_spec hs; exact ⟨t', s', ds', a1, rfl, h1, h2, h3⟩
    | goto l => exact hq.elim
    | panic c => exact hq.elim
    | outgrown => exact hq.elim
  | region id ops draw =>
    intro Q t s ds a w h hf hok
    obtain ⟨ops⟩ := ops
    cases draw with
    | false =>
      refine wpIn_region_list ?_
      exact wopsY_ok hX (fun t s a w hf hok hq => ⟨t, s, ds, a, rfl, hf, hok, hq⟩) ops t s a w h hf hok
    | true =>
      have main : NeedDI X ops (fun t s => Q .normal t s ds) t s → (Code.region id ⟨ops⟩ true).wpIn (F0 r) 0 X.P (concD X.n w0 Q) (wd a (coll ds)) w := fun ⟨h⟩ =>
        wpIn_region_any (F := F0 r) hX.1 (h r (coll ds) w0 w a _ hok hf (fun t s a w hok hf hq => ⟨t, s, ds, a, rfl, hf, hok, hq⟩) (fun c a w hq => hq))
      cases rd with
      | true => exact main h
      | false =>
        cases ds with
        | cons _ _ => exact main h
        | nil =>
          cases hrd rfl
          unfold WPr at h
          dsimp only at h
          split at h
          · exact main h
          have ha : wd a (coll []) = a := by
            have := hf.2.1
            cases a; simp only [wd, coll, List.map_nil] at this ⊢; rw [this]
          rw [ha]
          obtain ⟨h⟩ := h
          refine wpIn_wide.2 (wp_region_any hX.1 ?_)
          exact h w0 w a _ hok hf (fun t s a w hok hf hq => ⟨t, s, [], a, by
            have := hf.2.1
            cases a; simp only [wd, coll, List.map_nil] at this ⊢; rw [this], hf, hok, hq⟩) (fun c a w hq => hq)
end Go.Dw
namespace Go.Dw
open Go Go.RowKit

/-! ### The heaplet of a list of chunks -/
def joinL : List Ch → Hp
  | [] => Hp.emp
  | c :: r => c.h.join (joinL r)
def DjL (l : List Ch) : Prop := ∀ i j c d, i ≠ j → sget l i = some c → sget l j = some d → c.h.dj d.h
theorem joinL_some : ∀ {l : List Ch} {b : Nat} {o : Obj}, joinL l b = some o → ∃ i d, sget l i = some d ∧ d.h b = some o
  | [], b, o, h => by cases h
  | c :: r, b, o, h => by
    have h : (match c.h b with | some o => some o | none => joinL r b) = some o := h
    cases hc : c.h b with
    | some o' => rw [hc] at h; cases h; exact ⟨0, c, rfl, hc⟩
    | none => rw [hc] at h; obtain ⟨i, d, h1, h2⟩ := joinL_some h; exact ⟨i + 1, d, h1, h2⟩
theorem DjL.tail {c : Ch} {l : List Ch} (h : DjL (c :: l)) : DjL l := fun i j a b hij h1 h2 => h (i + 1) (j + 1) a b (by omega) h1 h2
theorem joinL_le : ∀ {l : List Ch}, DjL l → ∀ {i : Nat} {d : Ch}, sget l i = some d → d.h.le (joinL l)
  | [], _, i, d, h => by cases h
  | c :: r, hd, 0, d, h => by simp only [sget, Option.some.injEq] at h; subst h; exact Hp.le_join_l _ _
  | c :: r, hd, i + 1, d, h => by
    refine (joinL_le hd.tail (show sget r i = some d from h)).trans (Hp.le_join_r fun b => ?_)
    cases hj : joinL r b with
    | none => exact .inr rfl
    | some o =>
      left
      obtain ⟨k, e, h1, h2⟩ := joinL_some hj
      exact (hd 0 (k + 1) c e (by omega) rfl h1 b).resolve_right (by rw [h2]; simp)
theorem Ok.joinL {w0 w : World} {c : Ch} {l : List Ch} (h : Ok w0 (c :: l) w) : Ok w0 [c, .hp (Dw.joinL l)] w := by
  have hcd : c.h.dj (Dw.joinL l) := fun b => by
    cases hj : Dw.joinL l b with
    | none => exact .inr rfl
    | some o =>
      left
      obtain ⟨k, e, h1, h2⟩ := joinL_some hj
      exact (h.disj 0 (k + 1) c e (by omega) rfl h1 b).resolve_right (by rw [h2]; simp)
  refine ⟨h.os, h.tape, h.output, h.size, h.drawn, fun i d e => ?_, fun i j d d' hij e1 e2 => ?_⟩
  · match i, e with
    | 0, e => exact h.mem 0 d e
    | 1, e =>
      simp only [sget, Option.some.injEq] at e; subst e
      intro b o hb
      obtain ⟨k, d, h1, h2⟩ := joinL_some hb
      exact h.mem (k + 1) d h1 b o h2
  · match i, j, e1, e2 with
    | 0, 0, _, _ => exact absurd rfl hij
    | 1, 1, _, _ => exact absurd rfl hij
    | 0, 1, e1, e2 => simp only [sget, Option.some.injEq] at e1 e2; subst e1; subst e2; exact hcd
    | 1, 0, e1, e2 => simp only [sget, Option.some.injEq] at e1 e2; subst e1; subst e2; exact hcd.symm
theorem Ok.djL {w0 w : World} {c : Ch} {l : List Ch} (h : Ok w0 (c :: l) w) : DjL l := fun i j a b hij h1 h2 => h.disj (i + 1) (j + 1) a b (by omega) h1 h2
theorem Hp.djLe {a b k : Hp} (d : a.dj b) (l : k.le b) : a.dj k := fun x => by
  rcases d x with h | h
  · exact .inl h
  · right
    cases hk : k x with
    | none => rfl
    | some o => rw [l _ _ hk] at h; cases h
theorem Ok.splitL {w0 w : World} {c : Ch} {l : List Ch} (h : Ok w0 [c, .hp (Dw.joinL l)] w) (hd : DjL l) : Ok w0 (c :: l) w := by
  have key : ∀ {i d}, sget l i = some d → c.h.dj d.h := fun e => Hp.djLe (h.disj 0 1 _ _ (by omega) rfl rfl) (joinL_le hd e)
  refine ⟨h.os, h.tape, h.output, h.size, h.drawn, fun i d e => ?_, fun i j d d' hij e1 e2 => ?_⟩
  · match i, e with
    | 0, e => exact h.mem 0 d e
    | i + 1, e => exact (h.mem 1 _ rfl).le (joinL_le hd e)
  · match i, j, e1, e2 with
    | 0, 0, _, _ => exact absurd rfl hij
    | 0, j + 1, e1, e2 => simp only [sget, Option.some.injEq] at e1; subst e1; exact key e2
    | i + 1, 0, e1, e2 => simp only [sget, Option.some.injEq] at e2; subst e2; exact (key e1).symm
    | i + 1, j + 1, e1, e2 => exact hd i j d d' (by omega) e1 e2
/-- one heaplet of the list made smaller -/
theorem Ok.less {w0 w : World} {h k : Hp} {l : List Ch} (hok : Ok w0 (.hp h :: l) w) (hl : k.le h) : Ok w0 (.hp k :: l) w := by
  have dl : ∀ {x : Hp}, h.dj x → k.dj x := fun d => (Hp.djLe d.symm hl).symm
  refine ⟨hok.os, hok.tape, hok.output, hok.size, hok.drawn, fun i d e => ?_, fun i j d d' hij e1 e2 => ?_⟩
  · match i, e with
    | 0, e => simp only [sget, Option.some.injEq] at e; subst e; exact (hok.mem 0 _ rfl).le hl
    | i + 1, e => exact hok.mem (i + 1) d e
  · match i, j, e1, e2 with
    | 0, 0, _, _ => exact absurd rfl hij
    | 0, j + 1, e1, e2 => simp only [sget, Option.some.injEq] at e1; subst e1; exact dl (hok.disj 0 (j + 1) _ _ (by omega) rfl e2)
    | i + 1, 0, e1, e2 => simp only [sget, Option.some.injEq] at e2; subst e2; exact (dl (hok.disj 0 (i + 1) _ _ (by omega) rfl e1)).symm
    | i + 1, j + 1, e1, e2 => exact hok.disj (i + 1) (j + 1) d d' (by omega) e1 e2
/-- a block of a chunk is another object now -/
theorem Ok.putObj {w0 w : World} {s : List Ch} (hok : Ok w0 s w) {i : Nat} {h : Hp} (hi : sget s i = some (.hp h)) {b : Nat} {o : Obj} (hb : h b = some o) (o' : Obj) :
    Ok w0 (sset s i (.hp (h.upd b o'))) (w.putObj b o') := by
  have hlt : b < w.heap.size := hok.lt hi hb
  refine hok.upd hi _ rfl rfl rfl (by simp) (Nat.le_refl _) (fun k _ hk => ?_) ?_ (fun k hk => ?_)
  · exact World.putObj_heap_other (fun e => by subst e; rw [show (Ch.hp h).h k = h k from rfl, hb] at hk; cases hk)
  · intro k x hk
    simp only [Ch.h, Hp.upd] at hk
    split at hk
    · rename_i e; subst e; cases hk; exact World.putObj_heap_same hlt
    · rename_i e; rw [World.putObj_heap_other e]; exact hok.mem i _ hi k x hk
  · left
    simp only [Ch.h, Hp.upd] at hk ⊢
    split at hk
    · rename_i e; subst e; rw [hb]; simp
    · exact hk

/-! ### The contract of an iterator -/
/-- The iterator, called with yield, hands over xs one by one; Rd: what it reads; each round changes the caller's heaplet alone. -/
def IterC (P : Program) (gf : Nat) (lb : List Value) {α : Type} (encs : α → List Value) (xs : List α) (Rd : Hp → Prop) : Prop :=
  ∀ (w : World) (h : Hp) (l : Nat) (J Jx : List α → Hp → Prop), h.In w → Rd ((Hp.whole w).minus h) → J [] h →
   (∀ (w1 : World) (h1 : Hp) (pre : List α) (x : α) (post : List α), xs = pre ++ x :: post → J pre h1 → h1.In w1 → ((Hp.whole w).minus h).In w1 → ((Hp.whole w).minus h).dj h1 →
      YieldAt Fence.wide 0 P l (encs x).toArray w1 (RetM w1 h1 fun v h2 cs => cs = [] ∧ ((v = .bool true ∧ J (pre ++ [x]) h2) ∨ (v = .bool false ∧ Jx (pre ++ [x]) h2)))) →
   CallsE P gf (.func (.yield l) #[] #[] :: lb).toArray w (RetM w h fun _ h' cs => cs = [] ∧ (J xs h' ∨ ∃ pre, pre <+: xs ∧ Jx pre h'))
/-- the same where the caller stops at the end of the list if C is false -/
def IterB (P : Program) (gf : Nat) (lb : List Value) {α : Type} (encs : α → List Value) (xs : List α) (Rd : Hp → Prop) (C : Prop) : Prop :=
  ∀ (w : World) (h : Hp) (l : Nat) (J Jx : List α → Hp → Prop), h.In w → Rd ((Hp.whole w).minus h) → J [] h →
   (∀ (w1 : World) (h1 : Hp) (pre : List α) (x : α) (post : List α), xs = pre ++ x :: post → J pre h1 → h1.In w1 → ((Hp.whole w).minus h).In w1 → ((Hp.whole w).minus h).dj h1 →
      YieldAt Fence.wide 0 P l (encs x).toArray w1 (RetM w1 h1 fun v h2 cs => cs = [] ∧ ((v = .bool true ∧ J (pre ++ [x]) h2) ∨ (v = .bool false ∧ Jx (pre ++ [x]) h2)))) →
   (¬ C → ∀ h, ¬ J xs h) →
   CallsE P gf (.func (.yield l) #[] #[] :: lb).toArray w (RetM w h fun _ h' cs => cs = [] ∧ (J xs h' ∨ ∃ pre, pre <+: xs ∧ Jx pre h'))

/-- a call of yield in the iterator: chunk 0: what it reads; chunk 1: the caller's heaplet -/
theorem yieldQ {P : Program} {s : List Ch} {l : Nat} {args : List Value} {q : TV → List Ch → Prop} {c h1 : Hp} (h0 : sget s 0 = some (.hp c)) (hi : sget s 1 = some (.hp h1)) {R : Value → Hp → Prop}
    (hc : ∀ w, h1.In w → c.In w → c.dj h1 → YieldAt Fence.wide 0 P l args.toArray w (RetM w h1 fun v h2 cs => cs = [] ∧ R v h2))
    (k : ∀ v h2, R v h2 → q (.v v) (sset s 1 (.hp h2))) : NeedY P s l args q := by
  refine ⟨fun w0 w hok => ?_⟩
  obtain ⟨fn, tmps, assign, body, h3, h4⟩ := hc w (hok.mem 1 _ hi) (hok.mem 0 _ h0) (hok.disj 0 1 _ _ (by omega) h0 hi)
  refine ⟨fn, tmps, assign, body, h3, h4.mono fun e w' he => ?_⟩
  obtain ⟨v, h2, cs, rfl, h5, rfl, h6⟩ := he
  have := hok.callM hi h5
  rw [List.append_nil] at this
  exact ⟨v, _, rfl, this, Keep.set hi (fun b cs T e => by cases e), k v h2 h6⟩

/-! ### The statement -/
def LH (D l : Nat) (r : Loop) : Hp := fun k => if k = D then some (.deferred (some [])) else if k = l then some (.loop r) else none
theorem LH_l {D l : Nat} (h : D ≠ l) (r : Loop) : LH D l r l = some (.loop r) := by unfold LH; rw [if_neg (Ne.symm h), if_pos rfl]
theorem LH_upd {D l : Nat} (h : D ≠ l) (r r' : Loop) : (LH D l r).upd l (.loop r') = LH D l r' := by
  funext k
  unfold Hp.upd LH
  by_cases hl : k = l
  · subst hl; rw [if_pos rfl, if_neg (Ne.symm h), if_pos rfl]
  · rw [if_neg hl, if_neg hl, if_neg hl]
theorem LH_D (D l : Nat) (r : Loop) : (Hp.one D (.deferred (some []))).le (LH D l r) := fun b o hb => by
  unfold Hp.one at hb
  split at hb
  · rename_i e; subst e; cases hb; unfold LH; rw [if_pos rfl]
  · cases hb
def zipT : List Nat → List Value → Tm → Tm
  | p :: ps, v :: vs, t => zipT ps vs ((p, .v v) :: t)
  | _, _, t => t
theorem zipT_fr {n : Nat} {s : List Ch} : ∀ (ps : List Nat) (vs : List Value) (t : Tm) (a : Act), Fr n t s a → (∀ p ∈ ps, p < n) → Fr n (zipT ps vs t) s { tmps := (ps.zip vs).foldl (fun t (p, v) => t.setIfInBounds p v) a.tmps, defers := [] }
  | [], vs, t, a, h, _ => by
    have := h.2.1
    cases a; simp only at this; subst this
    simpa [zipT] using h
  | p :: ps, [], t, a, h, _ => by
    have := h.2.1
    cases a; simp only at this; subst this
    simpa [zipT] using h
  | p :: ps, v :: vs, t, a, h, hp => by
    have := zipT_fr ps vs ((p, .v v) :: t) (a.put (some p) v) (h.put rfl (hp p (by simp))) fun q hq => hp q (by simp [hq])
    simpa [zipT, Act.put] using this
def jumpC : Ex → Code
  | .normal => .skip
  | .exit i => .exit i
  | .ret => .ret
theorem tv_hl {c c' hl hl' : Hp} {s : List Ch} (tv : TV) : tv.val (.hp c :: .hp hl :: s) = tv.val (.hp c' :: .hp hl' :: s) := by
  cases tv with
  | v x => rfl
  | bx i off => match i with | 0 => rfl | 1 => rfl | i + 2 => rfl
  | bs i off => match i with | 0 => rfl | 1 => rfl | i + 2 => rfl
theorem want_hl {c c' hl hl' : Hp} {s : List Ch} : ∀ t : Tm, want (.hp c :: .hp hl :: s) t = want (.hp c' :: .hp hl' :: s) t
  | [] => rfl
  | (i, tv) :: r => by simp only [want]; rw [tv_hl (c' := c') (hl' := hl') tv, want_hl r]
theorem Fr.hl {n : Nat} {t : Tm} {c c' hl hl' : Hp} {s : List Ch} {a : Act} (h : Fr n t (.hp c :: .hp hl :: s) a) : Fr n t (.hp c' :: .hp hl' :: s) a :=
  ⟨h.1, h.2.1, fun i tv hi => let ⟨v, h1, h2⟩ := h.2.2 i tv hi; ⟨v, by rw [tv_hl (c' := c) (hl' := hl)]; exact h1, h2⟩⟩
theorem want_get {s s' : List Ch} : ∀ {t : Tm}, want s t = want s' t → ∀ {i : Nat} {tv : TV}, aget t i = some tv → tv.val s = tv.val s'
  | [], _, i, tv, h => by cases h
  | (j, x) :: r, h, i, tv, hi => by
    simp only [want, List.cons.injEq] at h
    rw [aget_cons] at hi
    split at hi
    · cases hi; exact h.1
    · exact want_get h.2 hi
theorem Fr.want {n : Nat} {t : Tm} {s s' : List Ch} {a : Act} (h : Fr n t s a) (hw : want s t = want s' t) : Fr n t s' a :=
  ⟨h.1, h.2.1, fun i tv hi => let ⟨v, h1, h2⟩ := h.2.2 i tv hi; ⟨v, by rw [← want_get hw hi]; exact h1, h2⟩⟩
/-- what a round's end is to hand on -/
def rEnd {G α : Type} (mu : G → List Ch) (R : G → List α → Prop) (Rj : Ex → G → List α → Prop) (c hl : Hp) (xs : List α) (e : Ex) (s : List Ch) : Prop := match e with
  | .normal => ∃ g', R g' xs ∧ ∀ w0 w, Ok w0 s w → Ok w0 (.hp c :: .hp hl :: mu g') w
  | e => ∃ g', Rj e g' xs ∧ ∀ w0 w, Ok w0 s w → Ok w0 (.hp c :: .hp hl :: mu g') w

theorem rangeFB {X : Ctx} (hX : X.Good) {g : Operand} {ps : List Nat} {assign body : Code} {Q : QD} {t : Tm} {s : List Ch} {ds : List Nat} {gf : Nat} {lb : List Value}
    (hg : opv t g = some (.v (.func (.func gf) ⟨[]⟩ ⟨lb⟩))) {α : Type} {encs : α → List Value} {xs : List α} {Rd : Hp → Prop} {C : Prop} (it : IterB X.P gf lb encs xs Rd C)
    (hps : ∀ x, (encs x).length = ps.length) (hpn : ∀ p ∈ ps, p < X.n) (hRdm : ∀ h k : Hp, Rd h → h.le k → Rd k)
    (c0 : Hp) (t' : Tm) (G : Type) (mu : G → List Ch) (R : G → List α → Prop) (Rj : Ex → G → List α → Prop) (Rb : Hp → Prop)
    (hRd : Rd c0) (hRb : Rb c0) (hRbm : ∀ h k : Hp, Rb h → h.le k → Rb k) (g0 : G) (h0 : R g0 [])
    (hC : ¬ C → ∀ g, ¬ R g xs)
    (hent : ∀ w0 w, Ok w0 s w → Ok w0 (.hp c0 :: mu g0) w)
    (ht : look s t t' = want (.hp Hp.emp :: .hp Hp.emp :: mu g0) t') (hts : allSome (want (.hp Hp.emp :: .hp Hp.emp :: mu g0) t') = true)
    (htg : ∀ g, want (.hp Hp.emp :: .hp Hp.emp :: mu g) t' = want (.hp Hp.emp :: .hp Hp.emp :: mu g0) t')
    (round : ∀ g pre x post c1 hl, xs = pre ++ x :: post → R g pre → Rb c1 →
      WPr X true assign (fun e t1 s1 ds1 => match e with
        | .normal => ∃ t2 s2, Ent t1 s1 t2 (.hp c1 :: .hp hl :: s2) ∧ ∀ hl', WPr X true body (fun e _ s3 _ => rEnd mu R Rj c1 hl' (pre ++ [x]) e s3) t2 (.hp c1 :: .hp hl' :: s2) ds1
        | _ => False) (zipT ps (encs x) t') (.hp c1 :: .hp hl :: mu g) [])
    (done : ∀ g D, R g xs → Q .normal t' (.hp c0 :: .hp (Hp.one D (.deferred (some []))) :: mu g) (D :: ds))
    (stop : ∀ e g D pre, pre <+: xs → Rj e g pre → Q e t' (.hp c0 :: .hp (Hp.one D (.deferred (some []))) :: mu g) (D :: ds)) :
    NeedRF X g ps.toArray assign body Q t s ds := by
  refine ⟨fun w0 w a hf hok => ?_⟩
  have hge : (wd a (coll ds)).eval g = .func (.func gf) ⟨[]⟩ ⟨lb⟩ := by
    rw [wd_eval]
    obtain ⟨tv, h1, h2⟩ := hf.w.tvk (x := g) (q := fun tv => tv = .v (.func (.func gf) ⟨[]⟩ ⟨lb⟩)) (by unfold tvk; rw [hg]; exact rfl)
    subst h2
    simp only [TV.val, Option.some.injEq] at h1
    exact h1.symm
  -- the temporaries at the statement
  have hft : ∀ c hl g, Fr X.n t' (.hp c :: .hp hl :: mu g) a := fun c hl g => by
    have e0 : Fr X.n t' (.hp Hp.emp :: .hp Hp.emp :: mu g0) a := ⟨hf.1, hf.2.1, fun i tv' hi => by
      obtain ⟨tv, v, h1, h2, h3⟩ := look_spec ht hts i tv' hi
      obtain ⟨v', h4, h5⟩ := hf.2.2 i tv h1
      rw [h2] at h4; cases h4
      exact ⟨v, h3, h5⟩⟩
    exact (e0.want (htg g).symm).hl
  have hok0 := hent w0 w hok
  refine wpIn_rangeFunc ?_
  intro fn hfn
  obtain ⟨D, hD⟩ : ∃ D, D = w.heap.size := ⟨_, rfl⟩
  obtain ⟨l, hl⟩ : ∃ l, l = D + 1 := ⟨_, rfl⟩
  have hDl : D ≠ l := by omega
  obtain ⟨rec, hrec⟩ : ∃ rec : LoopState → Option Code → Loop, rec = fun st pe => { state := st, pending := pe, fn, tmps := a.tmps, params := ps.toArray, assign, body, defers := D } := ⟨_, rfl⟩
  obtain ⟨W1, hW1⟩ : ∃ W1, (w.alloc (.deferred (some []))).alloc (.loop (rec .ready none)) = W1 := ⟨_, rfl⟩
  have hok1 : Ok w0 (.hp c0 :: .hp (LH D l (rec .ready none)) :: mu g0) W1 := by
    have h1 := (hok0.alloc (.hp (Hp.one w.heap.size (.deferred (some [])))) _ rfl).alloc (.hp (Hp.one (w.alloc (.deferred (some []))).heap.size (.loop (rec .ready none)))) _ rfl
    rw [hW1, World.size_alloc, ← hD, ← hl] at h1
    refine ⟨h1.os, h1.tape, h1.output, h1.size, h1.drawn, fun i d e => ?_, fun i j d d' hij e1 e2 => ?_⟩
    all_goals
      have hlast : ∀ {b o}, LH D l (rec .ready none) b = some o → (b = D ∧ o = .deferred (some [])) ∨ (b = l ∧ o = .loop (rec .ready none)) := fun {b o} hb => by
        unfold LH at hb
        split at hb
        · exact .inl ⟨by assumption, by cases hb; rfl⟩
        · split at hb
          · exact .inr ⟨by assumption, by cases hb; rfl⟩
          · cases hb
      have n1 : sget ((.hp c0 :: mu g0) ++ [.hp (Hp.one D (.deferred (some [])))] ++ [.hp (Hp.one l (.loop (rec .ready none)))]) ((mu g0).length + 1) = some (.hp (Hp.one D (.deferred (some [])))) := by
        rw [sget_eq]; simp
      have n2 : sget ((.hp c0 :: mu g0) ++ [.hp (Hp.one D (.deferred (some [])))] ++ [.hp (Hp.one l (.loop (rec .ready none)))]) ((mu g0).length + 2) = some (.hp (Hp.one l (.loop (rec .ready none)))) := by
        rw [sget_eq]; simp
      have old : ∀ {i d}, sget (.hp c0 :: mu g0) i = some d → i < (mu g0).length + 1 ∧ sget ((.hp c0 :: mu g0) ++ [.hp (Hp.one D (.deferred (some [])))] ++ [.hp (Hp.one l (.loop (rec .ready none)))]) i = some d := fun {i d} e => by
        rw [sget_eq] at e
        have hlt := (List.getElem?_eq_some_iff.1 e).1
        simp only [List.length_cons] at hlt
        refine ⟨hlt, ?_⟩
        rw [sget_eq, List.append_assoc, List.getElem?_append_left (by simpa using hlt)]
        exact e
      have djn : ∀ {i d}, sget (.hp c0 :: mu g0) i = some d → d.h.dj (LH D l (rec .ready none)) := fun {i d} e b => by
        obtain ⟨hlt, e'⟩ := old e
        cases hb : LH D l (rec .ready none) b with
        | none => exact .inr rfl
        | some o =>
          left
          rcases hlast hb with ⟨rfl, rfl⟩ | ⟨rfl, rfl⟩
          · exact (h1.disj i _ d _ (by omega) e' n1 b).resolve_right (by simp [Ch.h, Hp.one])
          · exact (h1.disj i _ d _ (by omega) e' n2 b).resolve_right (by simp [Ch.h, Hp.one])
    · match i, e with
      | 0, e => exact h1.mem 0 d (old (i := 0) e).2
      | 1, e =>
        simp only [sget, Option.some.injEq] at e; subst e
        intro b o hb
        rcases hlast hb with ⟨rfl, rfl⟩ | ⟨rfl, rfl⟩
        · exact h1.mem _ _ n1 _ _ (Hp.one_self _ _)
        · exact h1.mem _ _ n2 _ _ (Hp.one_self _ _)
      | i + 2, e => exact h1.mem (i + 1) d (old (i := i + 1) e).2
    · match i, j, e1, e2 with
      | 0, 0, _, _ => exact absurd rfl hij
      | 1, 1, _, _ => exact absurd rfl hij
      | 0, 1, e1, e2 => simp only [sget, Option.some.injEq] at e2; subst e2; exact djn (i := 0) e1
      | 1, 0, e1, e2 => simp only [sget, Option.some.injEq] at e1; subst e1; exact (djn (i := 0) e2).symm
      | 0, j + 2, e1, e2 => exact hok0.disj 0 (j + 1) d d' (by omega) e1 e2
      | i + 2, 0, e1, e2 => exact hok0.disj (i + 1) 0 d d' (by omega) e1 e2
      | 1, j + 2, e1, e2 => simp only [sget, Option.some.injEq] at e1; subst e1; exact (djn (i := j + 1) e2).symm
      | i + 2, 1, e1, e2 => simp only [sget, Option.some.injEq] at e2; subst e2; exact djn (i := i + 1) e1
      | i + 2, j + 2, e1, e2 => exact hok0.disj (i + 1) (j + 1) d d' (by omega) e1 e2
  -- the caller's heaplet between two rounds
  obtain ⟨H, hH⟩ : ∃ H : G → LoopState → Option Code → List Ch, H = fun g st pe => .hp (LH D l (rec st pe)) :: mu g := ⟨_, rfl⟩
  have hok2 := hok1.joinL
  have hin : (joinL (H g0 .ready none)).In W1 := by rw [hH]; exact hok2.mem 1 _ rfl
  have hc0 : c0.le ((Hp.whole W1).minus (joinL (H g0 .ready none))) := by
    rw [hH]; exact Hp.le_minus (hok2.mem 0 _ rfl).whole (hok2.disj 0 1 _ _ (by omega) rfl rfl)
  obtain ⟨J, hJ⟩ : ∃ J : List α → Hp → Prop, J = fun pre h => ∃ g, R g pre ∧ h = joinL (H g .ready none) ∧ DjL (H g .ready none) := ⟨_, rfl⟩
  obtain ⟨Jx, hJx⟩ : ∃ J : List α → Hp → Prop, J = fun pre h => ∃ g e, Rj e g pre ∧ e ≠ .normal ∧ h = joinL (H g .done (some (jumpC e))) ∧ DjL (H g .done (some (jumpC e))) := ⟨_, rfl⟩
  have hcall := it W1 (joinL (H g0 .ready none)) l J Jx hin (hRdm _ _ hRd hc0) (by rw [hJ]; exact ⟨g0, h0, rfl, by rw [hH]; exact hok1.djL⟩) (by
    intro w1 h1 pre x post hx hJ1 hi1 hro hrd
    rw [hJ] at hJ1
    obtain ⟨g, hR, rfl, hdj⟩ := hJ1
    obtain ⟨c1, hc1⟩ : ∃ c1, c1 = (Hp.whole w1).minus (joinL (H g .ready none)) := ⟨_, rfl⟩
    have hokr : Ok w1 (.hp c1 :: H g .ready none) w1 := by rw [hc1]; exact (Ok.start2 w1 hi1).splitL hdj
    have hb1 : Rb c1 := hRbm _ _ hRb (hc0.trans (by rw [hc1]; exact Hp.le_minus hro.whole hrd))
    have hlr : w1.heap[l]? = some (.loop (rec .ready none)) := by
      have := hokr.mem 1 (.hp (LH D l (rec .ready none))) (by rw [hH]; rfl)
      exact this _ _ (LH_l hDl _)
    have hy := run_yield (P := X.P) (args := (encs x).toArray) hlr (by rw [hrec]; simp [hps x])
    refine ⟨fn, _, assign, body, by rw [hrec] at hy; exact hy, roundIn_of_wpIn (F := Fence.wide) trivial ?_⟩
    rw [hH] at hokr
    have hfr : Fr X.n (zipT ps (encs x) t') (.hp c1 :: .hp (LH D l (rec .ready none)) :: mu g) { tmps := (ps.zip (encs x)).foldl (fun t (p, v) => t.setIfInBounds p v) a.tmps, defers := [] } := zipT_fr ps (encs x) t' a (hft _ _ _) hpn
    have hwp := WPr_sound (r := some l) (rd := true) hX nofun assign _ _ _ _ _ _ (round g pre x post c1 (LH D l (rec .ready none)) hx hR hb1) hfr hokr
    have ea : (wd { tmps := (ps.zip (encs x)).foldl (fun t (p, v) => t.setIfInBounds p v) a.tmps, defers := [] } (coll [])) = { tmps := (ps.toArray.zip (encs x).toArray).foldl (fun t (p, v) => t.setIfInBounds p v) a.tmps, defers := [] } := by
      simp [wd, coll]
    rw [ea] at hwp
    refine wpIn_mono (F := F0 (some l)) hwp fun e a1 w2 hq => ?_
    cases e with
    | normal =>
      obtain ⟨t1, s1, ds1, a2, rfl, hf1, hok3, t2, s2, hE, hbody⟩ := hq
      obtain ⟨hok4, hf4⟩ := hE _ _ _ _ hok3 hf1
      have hl2 : w2.heap[l]? = some (.loop (rec .ready none)) := hok4.mem 1 _ rfl _ _ (LH_l hDl _)
      refine ⟨_, run_beginRound hl2 (by rw [hrec]), ?_⟩
      have hok5 := hok4.putObj (i := 1) rfl (LH_l hDl _) (.loop { rec .ready none with state := .busy })
      rw [LH_upd hDl] at hok5
      have hwb := WPr_sound (r := some l) (rd := true) hX nofun body _ _ _ _ _ _ (hbody (LH D l { rec .ready none with state := .busy })) hf4.hl hok5
      have fin : ∀ (jump : Option Code) (g' : G) (w3 : World), Ok w1 (.hp c1 :: .hp (LH D l { rec .ready none with state := .busy }) :: mu g') w3 →
          ∃ w4, (Instr.endRound l jump).run X.P w3 = .ok (.bool jump.isNone) w4 ∧ Ok w1 (.hp c1 :: H g' (if jump.isNone then .ready else .done) jump) w4 := fun jump g' w3 hok6 => by
        have hl3 : w3.heap[l]? = some (.loop { rec .ready none with state := .busy }) := hok6.mem 1 _ rfl _ _ (LH_l hDl _)
        refine ⟨_, run_endRound jump hl3, ?_⟩
        have hok7 := hok6.putObj (i := 1) rfl (LH_l hDl _) (.loop { rec .ready none with state := if jump.isNone then .ready else .done, pending := jump })
        rw [LH_upd hDl] at hok7
        rw [hH]
        have er : { rec .ready none with state := if jump.isNone then .ready else .done, pending := jump } = rec (if jump.isNone then .ready else .done) jump := by rw [hrec]
        dsimp only
        rw [← er]
        exact hok7
      refine wpIn_mono (F := F0 (some l)) hwb fun e a3 w3 hq3 => ?_
      cases e with
      | normal =>
        obtain ⟨t3, s3, ds3, a4, rfl, hf5, hok6, g', hR', hE'⟩ := hq3
        obtain ⟨w4, hr4, hok7⟩ := fin none g' w3 (hE' _ _ hok6)
        refine ⟨_, w4, hr4, .bool true, joinL (H g' .ready none), [], rfl, ?_, rfl, .inl ⟨rfl, ?_⟩⟩
        · rw [← hc1]; exact hok7.joinL
        · rw [hJ]; exact ⟨g', hR', rfl, hok7.djL⟩
      | exit i =>
        obtain ⟨t3, s3, ds3, a4, rfl, hf5, hok6, g', hR', hE'⟩ := hq3
        obtain ⟨w4, hr4, hok7⟩ := fin (some (.exit i)) g' w3 (hE' _ _ hok6)
        refine ⟨_, w4, hr4, .bool false, joinL (H g' .done (some (.exit i))), [], rfl, ?_, rfl, .inr ⟨rfl, ?_⟩⟩
        · rw [← hc1]; exact hok7.joinL
        · rw [hJx]; exact ⟨g', .exit i, hR', nofun, rfl, hok7.djL⟩
      | ret =>
        obtain ⟨t3, s3, ds3, a4, rfl, hf5, hok6, g', hR', hE'⟩ := hq3
        obtain ⟨w4, hr4, hok7⟩ := fin (some .ret) g' w3 (hE' _ _ hok6)
        refine ⟨_, w4, hr4, .bool false, joinL (H g' .done (some .ret)), [], rfl, ?_, rfl, .inr ⟨rfl, ?_⟩⟩
        · rw [← hc1]; exact hok7.joinL
        · rw [hJx]; exact ⟨g', .ret, hR', nofun, rfl, hok7.djL⟩
      | goto i => exact hq3.elim
      | panic c => exact hq3.elim
      | outgrown => exact hq3.elim
    | exit i => obtain ⟨_, _, _, _, _, _, _, h⟩ := hq; exact h.elim
    | ret => obtain ⟨_, _, _, _, _, _, _, h⟩ := hq; exact h.elim
    | goto i => exact hq.elim
    | panic c => exact hq.elim
    | outgrown => exact hq.elim) (fun hc h hj => by rw [hJ] at hj; obtain ⟨g, hR, _⟩ := hj; exact hC hc g hR)
  refine ⟨l, [{ target := .collected D, args := #[] }], W1, { target := .fn (.func gf) ⟨lb⟩, args := #[.func (.yield l) #[] #[]] }, W1, gf, (.func (.yield l) #[] #[] :: lb).toArray, W1, ?_, ?_, fun _ _ => trivial, ?_, nofun, ?_⟩
  · have := run_enterLoop_outer (P := X.P) (w := w) fn a.tmps ps.toArray assign body
    rw [← hD, ← hl] at this
    rw [← hW1, hrec]
    exact this
  · simp only [resolve, hge]
    simp [go_sem]
  · have := hcall.1 W1
    simp only [invoke]
    simpa using this
  · refine callsIn_wide.2 (hcall.2.mono fun e w3 he => ?_)
    obtain ⟨v, h', cs, rfl, hok3, rfl, hJ3⟩ := he
    have hok4 : Ok w0 [.hp c0, .hp h'] w3 := by
      have := hok2.callM (i := 1) (h := joinL (H g0 .ready none)) (by rw [hH]; rfl) hok3
      simpa [sset] using this
    have fin : ∀ (g : G) (st : LoopState) (pe : Option Code), st ≠ .busy → h' = joinL (H g st pe) → DjL (H g st pe) →
        ∃ w4, (Instr.endLoop l).run X.P w3 = .ok pe w4 ∧ Ok w0 (.hp c0 :: .hp (Hp.one D (.deferred (some []))) :: mu g) w4 := fun g st pe hst hh hdj => by
      subst hh
      have hok5 := hok4.splitL hdj
      rw [hH] at hok5
      have hl3 : w3.heap[l]? = some (.loop (rec st pe)) := hok5.mem 1 _ rfl _ _ (LH_l hDl _)
      have hrun := run_endLoop (P := X.P) hl3 (by rw [hrec]; exact hst)
      refine ⟨_, hrun.trans (congrArg (fun x => Result.ok x _) (show (rec st pe).pending = pe by rw [hrec])), ?_⟩
      have hok6 := hok5.putObj (i := 1) rfl (LH_l hDl _) (.loop { rec st pe with state := .exhausted })
      rw [LH_upd hDl] at hok6
      have hswap : ∀ {c d : Ch} {m : List Ch} {w : World}, Ok w0 (c :: d :: m) w → Ok w0 (d :: c :: m) w := fun {c d m w} h =>
        ⟨h.os, h.tape, h.output, h.size, h.drawn, fun i x e => match i, e with
          | 0, e => h.mem 1 x e
          | 1, e => h.mem 0 x e
          | i + 2, e => h.mem (i + 2) x e, fun i j x y hij e1 e2 => match i, j, e1, e2 with
          | 0, 0, _, _ => absurd rfl hij
          | 1, 1, _, _ => absurd rfl hij
          | 0, 1, e1, e2 => h.disj 1 0 x y (by omega) e1 e2
          | 1, 0, e1, e2 => h.disj 0 1 x y (by omega) e1 e2
          | 0, j + 2, e1, e2 => h.disj 1 (j + 2) x y (by omega) e1 e2
          | 1, j + 2, e1, e2 => h.disj 0 (j + 2) x y (by omega) e1 e2
          | i + 2, 0, e1, e2 => h.disj (i + 2) 1 x y (by omega) e1 e2
          | i + 2, 1, e1, e2 => h.disj (i + 2) 0 x y (by omega) e1 e2
          | i + 2, j + 2, e1, e2 => h.disj (i + 2) (j + 2) x y hij e1 e2⟩
      exact hswap ((hswap hok6).less (LH_D _ _ _))
    have hds : ∀ b : Act, ({ wd b (coll ds) with defers := [{ target := .collected D, args := #[] }] ++ (wd b (coll ds)).defers } : Act) = wd b (coll (D :: ds)) := fun b => rfl
    rcases hJ3 with hJ3 | ⟨pre, hpre, hJ3⟩
    · rw [hJ] at hJ3
      obtain ⟨g, hR, hh, hdj⟩ := hJ3
      obtain ⟨w4, hr4, hok5⟩ := fin g .ready none nofun hh hdj
      refine ⟨none, w4, hr4, ?_⟩
      rw [hds]
      exact ⟨t', _, D :: ds, a, rfl, hft _ _ _, hok5, done g D hR⟩
    · rw [hJx] at hJ3
      obtain ⟨g, e, hR, hne, hh, hdj⟩ := hJ3
      obtain ⟨w4, hr4, hok5⟩ := fin g .done (some (jumpC e)) nofun hh hdj
      refine ⟨some (jumpC e), w4, hr4, ?_⟩
      rw [hds]
      have hst := stop e g D pre hpre hR
      cases e with
      | normal => exact absurd rfl hne
      | exit i => exact wpIn_exit ⟨t', _, D :: ds, a, rfl, hft _ _ _, hok5, hst⟩
      | ret => exact wpIn_ret ⟨t', _, D :: ds, a, rfl, hft _ _ _, hok5, hst⟩

theorem rangeF {X : Ctx} (hX : X.Good) {g : Operand} {ps : List Nat} {assign body : Code} {Q : QD} {t : Tm} {s : List Ch} {ds : List Nat} {gf : Nat} {lb : List Value}
    (hg : opv t g = some (.v (.func (.func gf) ⟨[]⟩ ⟨lb⟩))) {α : Type} {encs : α → List Value} {xs : List α} {Rd : Hp → Prop} (it : IterC X.P gf lb encs xs Rd)
    (hps : ∀ x, (encs x).length = ps.length) (hpn : ∀ p ∈ ps, p < X.n) (hRdm : ∀ h k : Hp, Rd h → h.le k → Rd k)
    (c0 : Hp) (t' : Tm) (G : Type) (mu : G → List Ch) (R : G → List α → Prop) (Rj : Ex → G → List α → Prop) (Rb : Hp → Prop)
    (hRd : Rd c0) (hRb : Rb c0) (hRbm : ∀ h k : Hp, Rb h → h.le k → Rb k) (g0 : G) (h0 : R g0 [])
    (hent : ∀ w0 w, Ok w0 s w → Ok w0 (.hp c0 :: mu g0) w)
    (ht : look s t t' = want (.hp Hp.emp :: .hp Hp.emp :: mu g0) t') (hts : allSome (want (.hp Hp.emp :: .hp Hp.emp :: mu g0) t') = true)
    (htg : ∀ g, want (.hp Hp.emp :: .hp Hp.emp :: mu g) t' = want (.hp Hp.emp :: .hp Hp.emp :: mu g0) t')
    (round : ∀ g pre x post c1 hl, xs = pre ++ x :: post → R g pre → Rb c1 →
      WPr X true assign (fun e t1 s1 ds1 => match e with
        | .normal => ∃ t2 s2, Ent t1 s1 t2 (.hp c1 :: .hp hl :: s2) ∧ ∀ hl', WPr X true body (fun e _ s3 _ => rEnd mu R Rj c1 hl' (pre ++ [x]) e s3) t2 (.hp c1 :: .hp hl' :: s2) ds1
        | _ => False) (zipT ps (encs x) t') (.hp c1 :: .hp hl :: mu g) [])
    (done : ∀ g D, R g xs → Q .normal t' (.hp c0 :: .hp (Hp.one D (.deferred (some []))) :: mu g) (D :: ds))
    (stop : ∀ e g D pre, pre <+: xs → Rj e g pre → Q e t' (.hp c0 :: .hp (Hp.one D (.deferred (some []))) :: mu g) (D :: ds)) :
    NeedRF X g ps.toArray assign body Q t s ds :=
  rangeFB hX (C := True) hg (fun w h l J Jx a b c d _ => it w h l J Jx a b c d) hps hpn hRdm c0 t' G mu R Rj Rb hRd hRb hRbm g0 h0 (fun h => absurd trivial h) hent ht hts htg round done stop

theorem NeedRF.sat {X : Ctx} {g : Operand} {ps : Array Nat} {assign body : Code} {Q : QD} {t : Tm} {s : List Ch} {ds : List Nat} (h : Sat s → NeedRF X g ps assign body Q t s ds) : NeedRF X g ps assign body Q t s ds :=
  ⟨fun w0 w a hf hok => match h ⟨w0, w, hok⟩ with | ⟨h⟩ => h w0 w a hf hok⟩
theorem Sat.djL {s l : List Ch} (h : Sat s) (is : List Nat) (hp : Dw.pick s is = some l) (hn : nodupN is = true) : DjL l := by
  obtain ⟨w0, w, hok⟩ := h
  have := hok.pick is hp hn
  exact fun i j c d hij h1 h2 => this.disj i j c d hij h1 h2
/-- the first chunks of a list as one heaplet -/
theorem Ok.joinP {w0 w : World} (l1 l2 : List Ch) (h : Ok w0 (l1 ++ l2) w) : Ok w0 (.hp (Dw.joinL l1) :: l2) w := by
  have g1 : ∀ {i d}, sget l1 i = some d → sget (l1 ++ l2) i = some d ∧ i < l1.length := fun {i d} e => by
    rw [sget_eq] at e
    have hlt := (List.getElem?_eq_some_iff.1 e).1
    exact ⟨by rw [sget_append, if_pos hlt, sget_eq]; exact e, hlt⟩
  have g2 : ∀ {i d}, sget l2 i = some d → sget (l1 ++ l2) (l1.length + i) = some d := fun {i d} e => by
    rw [sget_append, if_neg (by omega), show l1.length + i - l1.length = i by omega]; exact e
  have dj : ∀ {i d}, sget l2 i = some d → (Dw.joinL l1).dj d.h := fun {i d} e b => by
    cases hj : Dw.joinL l1 b with
    | none => exact .inl rfl
    | some o =>
      right
      obtain ⟨k, c, h1, h2⟩ := joinL_some hj
      obtain ⟨h3, h4⟩ := g1 h1
      exact (h.disj k (l1.length + i) c d (by omega) h3 (g2 e) b).resolve_left (by rw [h2]; simp)
  refine ⟨h.os, h.tape, h.output, h.size, h.drawn, fun i d e => ?_, fun i j d d' hij e1 e2 => ?_⟩
  · match i, e with
    | 0, e =>
      simp only [sget, Option.some.injEq] at e; subst e
      intro b o hb
      obtain ⟨k, c, h1, h2⟩ := joinL_some hb
      exact h.mem k c (g1 h1).1 b o h2
    | i + 1, e => exact h.mem _ d (g2 e)
  · match i, j, e1, e2 with
    | 0, 0, _, _ => exact absurd rfl hij
    | 0, j + 1, e1, e2 => simp only [sget, Option.some.injEq] at e1; subst e1; exact dj e2
    | i + 1, 0, e1, e2 => simp only [sget, Option.some.injEq] at e2; subst e2; exact (dj e1).symm
    | i + 1, j + 1, e1, e2 => exact h.disj _ _ d d' (by omega) (g2 e1) (g2 e2)

/-! ### The entry of a function -/
def finG (X : Ctx) (t : Tm) (s : List Ch) (ds : List Nat) (rs : List ResultVar) (k : Value → List Ch → Prop) : Prop := match ds with
  | [] => resk X s t rs fun v => k v s
  | D :: r => match r with
    | [] => ∃ j, sget s j = some (.hp (Hp.one D (.deferred (some [])))) ∧ resk X (sset s j (.hp (Hp.one D (.deferred none)))) t rs fun v => k v (sset s j (.hp (Hp.one D (.deferred none))))
    | _ => False
theorem one_upd (D : Nat) (o o' : Obj) : (Hp.one D o).upd D o' = Hp.one D o' := by
  funext k
  unfold Hp.upd Hp.one
  split <;> rfl
theorem enterG {X : Ctx} (hX : X.Good) {f : Nat} {fn : Func} {c : Code} {args : List Value} {w : World} {s0 : List Ch} (h0 : Ok w s0 w) {R : Ending → World → Prop} (rs : List ResultVar) {k : Value → List Ch → Prop} (hk : ∀ v s w', k v s → Ok w s w' → R (.returned v) w')
    (hf : X.P.funcs[f]? = some fn) (hb : fn.body = some c) (hn : (fn.name == "runtime.NumGoroutine") = false) (hr : fn.results = rs.toArray) (hm : fn.ntmps = X.n) (hl : Nat.ble args.length X.n = true)
    (h : WPr X false c (fun e t s ds => match e with
      | .exit _ => False
      | _ => finG X t s ds rs k) (iniT 0 args) s0 []) :
    CallsE X.P f args.toArray w R := by
  have hl := Nat.le_of_ble_eq_true hl
  refine ⟨fun w => ?_, callsIn_wide.1 (callsIn_of_wp_marks (n := 0) hf hb trivial ?_)⟩
  · have hn' : ¬ fn.name = "runtime.NumGoroutine" := by simpa using hn
    simp [callFunc, hf, hn', hb]
  · have hfr : Fr X.n (iniT 0 args) s0 { tmps := args.toArray ++ Array.replicate (fn.ntmps - args.toArray.size) undef, defers := [] } := by
      refine ⟨by simp [hm]; omega, rfl, fun i tv hi => ?_⟩
      obtain ⟨v, rfl, _, h2⟩ := aget_iniT args 0 i tv hi
      refine ⟨v, rfl, ?_⟩
      have : i < args.length := (List.getElem?_eq_some_iff.1 (by simpa using h2)).1
      rw [Array.getElem?_append_left (by simpa using this)]
      simpa using h2
    refine wpIn_mono (WPr_sound (r := none) hX (fun _ => rfl) c _ _ _ _ _ w h hfr h0) fun e a w' hq => ?_
    have fin : ∀ t s ds a0, Fr X.n t s a0 → Ok w s w' → finG X t s ds rs k → LeavesInM Fence.wide 0 X.P fn (wd a0 (coll ds)).tmps R (wd a0 (coll ds)).defers .returning w' := by
      intro t s ds a0 hf' hok hkk
      match ds, hkk with
      | [], hkk =>
        obtain ⟨v, h1, h2⟩ := resk_ok hX hf'.w hok.mem hkk hr
        exact ⟨v, h1, hk v s w' h2 hok⟩
      | [D], hkk =>
        obtain ⟨j, hj, hkk⟩ := hkk
        have hD : w'.heap[D]? = some (.deferred (some [])) := hok.mem j _ hj _ _ (Hp.one_self _ _)
        have hok2 := hok.putObj hj (Hp.one_self D _) (.deferred none)
        rw [one_upd] at hok2
        have hf2 := hf'.keep (Keep.set hj (c' := .hp (Hp.one D (.deferred none))) (fun b cs T e => by cases e))
        obtain ⟨v, h1, h2⟩ := resk_ok hX hf2.w hok2.mem hkk hr
        exact ⟨nofun, .inl ⟨D, _, rfl, run_takeDeferred hD, v, h1, hk v _ _ h2 hok2⟩⟩
    cases e with
    | normal => obtain ⟨t, s, ds, a0, rfl, h1, h2, h3⟩ := hq; exact fin t s ds a0 h1 h2 h3
    | ret => obtain ⟨t, s, ds, a0, rfl, h1, h2, h3⟩ := hq; exact fin t s ds a0 h1 h2 h3
    | exit i => obtain ⟨t, s, ds, a0, rfl, h1, h2, h3⟩ := hq; exact h3.elim
    | goto l => exact hq.elim
    | panic c => exact hq.elim
    | outgrown => exact hq.elim
/-- The entry of a function that may hold a range over a function. -/
theorem enterY {X : Ctx} (hX : X.Good) {f : Nat} {fn : Func} {c : Code} {args : List Value} {w : World} {R : Value → List Ch → Prop} (rs : List ResultVar)
    (hf : X.P.funcs[f]? = some fn) (hb : fn.body = some c) (hn : (fn.name == "runtime.NumGoroutine") = false) (hr : fn.results = rs.toArray) (hm : fn.ntmps = X.n) (hl : Nat.ble args.length X.n = true)
    (h : WPr X false c (fun e t s ds => match e with
      | .exit _ => False
      | _ => finG X t s ds rs fun v s => ∃ cs, R v cs ∧ ∀ w', Ok w s w' → Ok w (.hp (Hp.whole w) :: cs) w') (iniT 0 args) [.hp (Hp.whole w)] []) :
    CallsE X.P f args.toArray w (Ret w R) :=
  enterG hX (Ok.start w) rs (fun v _ w' ⟨cs, h1, h2⟩ hok => ⟨v, cs, rfl, h2 w' hok, h1⟩) hf hb hn hr hm hl h
/-- .., and that changes heaplet h. -/
theorem enterYM {X : Ctx} (hX : X.Good) {f : Nat} {fn : Func} {c : Code} {args : List Value} {w : World} {h : Hp} (hin : h.In w) {R : Value → Hp → List Ch → Prop} (rs : List ResultVar)
    (hf : X.P.funcs[f]? = some fn) (hb : fn.body = some c) (hn : (fn.name == "runtime.NumGoroutine") = false) (hr : fn.results = rs.toArray) (hm : fn.ntmps = X.n) (hl : Nat.ble args.length X.n = true)
    (hwp : WPr X false c (fun e t s ds => match e with
      | .exit _ => False
      | _ => finG X t s ds rs fun v s => ∃ h' cs, R v h' cs ∧ ∀ w', Ok w s w' → Ok w (.hp ((Hp.whole w).minus h) :: .hp h' :: cs) w') (iniT 0 args) [.hp ((Hp.whole w).minus h), .hp h] []) :
    CallsE X.P f args.toArray w (RetM w h R) :=
  enterG hX (Ok.start2 w hin) rs (fun v _ w' ⟨h', cs, h1, h2⟩ hok => ⟨v, h', cs, rfl, h2 w' hok, h1⟩) hf hb hn hr hm hl hwp
end Go.Dw
namespace Go.Dw
open Go Go.RowKit
/-- block b is a map whose keys are L, each with true -/
def OwnM (h : Hp) (b : Nat) (L : List Nat) : Prop := ∃ es clock, h b = some (.map es clock) ∧ es.toList.map (fun e => (e.key, e.val)) = L.map fun t : Nat => (Value.int .u64 t, Value.bool true)
theorem mkM {P : Program} {s : List Ch} {T : Nat} {q : TV → List Ch → Prop} (hq : ∀ b h, OwnM h b [] → q (.v (.map (some b))) (s ++ [.hp h])) : NeedE P s (Instr.makeMap T none) q := by
  refine ⟨fun w0 w hok => ⟨.v (.map (some w.heap.size)), _, w.alloc (.map #[] 0), _, ?_, hok.alloc (.hp (Hp.one w.heap.size (.map #[] 0))) _ rfl, Keep.app s _, rfl, hq _ _ ⟨#[], 0, Hp.one_self _ _, rfl⟩⟩⟩
  simp [Instr.makeMap]
theorem run_getMap {P : Program} {w : World} {b : Nat} {es : Array MapEntry} {clock : Nat} (h : w.heap[b]? = some (.map es clock)) : (getObj b).run P w = .ok (.map es clock) w := by simp [getObj, Sem.run, h]
theorem run_setMap {P : Program} {w : World} {b : Nat} {es : Array MapEntry} {clock : Nat} (o : Obj) (h : w.heap[b]? = some (.map es clock)) : (setObj b o).run P w = .ok () (w.putObj b o) := by simp [setObj, Sem.run, h, World.putObj]
theorem find_not {t : Nat} : ∀ {es : List MapEntry} {L : List Nat} (i : Nat), es.map (fun e => (e.key, e.val)) = L.map (fun t : Nat => (Value.int .u64 t, Value.bool true)) → t ∉ L → Instr.findNow (.int .u64) (.int .u64 t) es i = some none
  | [], [], i, _, _ => rfl
  | e :: es, x :: L, i, h, hn => by
    simp only [List.map_cons, List.cons.injEq, Prod.mk.injEq] at h
    obtain ⟨⟨h1, h2⟩, h3⟩ := h
    have hx : ¬ ((t : Int) == (x : Int)) = true := by
      simp only [beq_iff_eq]
      intro e; exact hn (by simp [show t = x by omega])
    unfold Instr.findNow
    rw [h1]
    simp only [Instr.sameNow, if_pos, Bool.not_eq_true _ ▸ hx]
    exact find_not (i + 1) h3 fun hm => hn (by simp [hm])
theorem find_in {t : Nat} : ∀ {es : List MapEntry} {L : List Nat} (i : Nat), es.map (fun e => (e.key, e.val)) = L.map (fun t : Nat => (Value.int .u64 t, Value.bool true)) → t ∈ L → ∃ j, Instr.findNow (.int .u64) (.int .u64 t) es i = some (some (j, .bool true))
  | [], [], i, _, hm => by cases hm
  | e :: es, x :: L, i, h, hm => by
    simp only [List.map_cons, List.cons.injEq, Prod.mk.injEq] at h
    obtain ⟨⟨h1, h2⟩, h3⟩ := h
    by_cases hx : t = x
    · subst hx
      refine ⟨i, ?_⟩
      unfold Instr.findNow
      rw [h1]
      simp [Instr.sameNow, h2]
    · obtain ⟨j, hj⟩ := find_in (i + 1) h3 ((List.mem_cons.1 hm).resolve_left hx)
      refine ⟨j, ?_⟩
      have hx' : ((t : Int) == (x : Int)) = false := by simp; omega
      unfold Instr.findNow
      rw [h1]
      simp only [Instr.sameNow, if_pos, hx']
      exact hj
theorem run_checkKey {P : Program} {w : World} {kt : Nat} {k : IntKind} (hk : P.underlying kt = some (.int k)) (e : Bool) (t : Int) : (Instr.checkKey e 10000 kt (.int k t)).run P w = .ok () w := by
  rw [show (10000 : Nat) = 9999 + 1 from rfl]
  unfold Instr.checkKey
  simp [underlying, hk]
theorem lookM {P : Program} {s : List Ch} {T kt et : Nat} (hT : P.underlying T = some (.map kt et)) (hk : P.underlying kt = some (.int .u64)) (hz : ∀ w, (zeroValue et).run P w = .ok (.bool false) w) {i : Nat} {h : Hp} (hi : sget s i = some (.hp h)) {b : Nat} {L : List Nat} (ho : OwnM h b L) (t : Nat) {q : TV → List Ch → Prop}
    (hq : q (.v (.bool (decide (t ∈ L)))) s) : NeedE P s (Instr.lookup T (.map (some b)) (.int .u64 t) false) q := by
  refine ⟨fun w0 w hok => ⟨_, _, w, s, ?_, hok, Keep.refl s, rfl, hq⟩⟩
  obtain ⟨es, clock, h1, h2⟩ := ho
  have hb := hok.mem i _ hi b _ h1
  have hu : (underlying T).run P w = .ok (.map kt et) w := by simp [underlying, hT]
  have huk : (underlying kt).run P w = .ok (.int .u64) w := by simp [underlying, hk]
  unfold Instr.lookup
  simp only [Sem.run_bind, hu, Result.andThen_ok, run_getMap hb, Sem.run_pure, run_checkKey hk, Instr.findKey, huk]
  by_cases hm : t ∈ L
  · obtain ⟨j, hj⟩ := find_in 0 h2 hm
    simp [hj, hm]
  · simp [find_not 0 h2 hm, hm, hz w]
theorem updM {P : Program} {s : List Ch} {T kt et : Nat} (hT : P.underlying T = some (.map kt et)) (hk : P.underlying kt = some (.int .u64)) {i : Nat} {h : Hp} (hi : sget s i = some (.hp h)) {b : Nat} {L : List Nat} (ho : OwnM h b L) (t : Nat) (hn : t ∉ L) {q : List Ch → Prop}
    (hq : ∀ h', OwnM h' b (L ++ [t]) → q (sset s i (.hp h'))) : NeedU P s (Instr.mapUpdate T (.map (some b)) (.int .u64 t) (.bool true)) q := by
  refine ⟨fun w0 w hok => ?_⟩
  obtain ⟨es, clock, h1, h2⟩ := ho
  have hb := hok.mem i _ hi b _ h1
  have hu : (underlying T).run P w = .ok (.map kt et) w := by simp [underlying, hT]
  have huk : (underlying kt).run P w = .ok (.int .u64) w := by simp [underlying, hk]
  have hok2 := hok.putObj hi h1 (.map (es.push { key := .int .u64 t, val := .bool true, born := clock }) (clock + 1))
  refine ⟨_, _, ?_, hok2, Keep.set hi (fun b cs T e => by cases e), hq _ ⟨_, _, Hp.upd_self _ _ _, ?_⟩⟩
  · unfold Instr.mapUpdate
    simp only [Sem.run_bind, hu, Result.andThen_ok, run_getMap hb, run_checkKey hk, Instr.findKey, huk, find_not 0 h2 hn, Sem.run_pure]
    exact run_setMap _ hb
  · simp [h2]
end Go.Dw
namespace Go.Dw
open Go Go.RowKit
section
variable {X : Ctx} {s : List Ch}
/-- s[:k:k] -/
theorem slMax (hX : X.Good) {T e : Nat} {te : TI} (hT : elsz X T = some (e, te)) {a : Option Addr} {n c : Nat} (k : Nat) {i1 i2 : IntKind} {x y : Int} (hx : x = k) (hy : y = k) (hk : k ≤ c) {q : TV → Prop}
    (hq : q (.v (.slice a k k))) : NeedQ X.P s (Instr.sliceAt T (.slice a n c) none (some (.int i1 x)) (some (.int i2 y))) q := by
  subst hx hy
  obtain ⟨hu, hg⟩ := elsz_spec hX hT
  obtain ⟨⟨inf, hinf, hs1, hs2, z, hz, hzc, hzl⟩, _⟩ := hg
  refine ⟨_, fun w _ => ?_, hq⟩
  cases a with
  | none => simp [Instr.sliceAt, Instr.slice, run_underlying hu, Instr.sliceBounds, run_sliceBound, sizeOf, typeInfo, hinf, hk]
  | some a =>
    simp [Instr.sliceAt, Instr.slice, run_underlying hu, Instr.sliceBounds, run_sliceBound, sizeOf, typeInfo, hinf, hk]
    intro _
    obtain ⟨b, o, p⟩ := a
    cases p <;> simp [Addr.add]
/-- append(x, y...), x without spare capacity, y not empty: the result lies in a new chunk -/
theorem appF {α : Type} {f : α → List Value} (hX : X.Good) {T e ty : Nat} {te : TI} (hT : elsz X T = some (e, te)) (hf : ∀ x, (f x).length = te.size) {a : Option Addr} {k : Nat} {L : List α} {a' : Option Addr} {m c : Nat} {L' : List α}
    (hx : ∀ w, Mem s w → Sl (encF f) te.size (Hp.whole w) a k k L) (hy : ∀ w, Mem s w → Sl (encF f) te.size (Hp.whole w) a' m c L') (h1 : L' ≠ [])
    (hby : Nat.ble te.bytes 140 = true) (hln : L.length + L'.length < 1000000000000) {q : TV → List Ch → Prop}
    (hq : ∀ o', OwnO f e te.size o' (L ++ L') → q (.v o'.v) (s ++ [.hp o'.h])) :
    NeedA X.P s #[T, T] ty (.slice a k k) (.v (.slice a' m c)) q := by
  obtain ⟨hu, hg⟩ := elsz_spec hX hT
  obtain ⟨⟨inf, hinf, hs1, hs2, z, hz, hzc, hzl⟩, _⟩ := hg
  have hb := Nat.le_of_ble_eq_true hby
  have fl : ∀ L : List α, (L.flatMap f).length = L.length * te.size := fun L => by
    induction L with
    | nil => simp
    | cons x r ih => simp [List.flatMap_cons, hf, ih, Nat.succ_mul, Nat.add_comm]
  refine ⟨.slice a' m c, rfl, ⟨fun w0 w hok => ?_⟩⟩
  have hxs := hx w hok.mem
  have hys := hy w hok.mem
  have hxl := hxs.len
  have hyl := hys.len
  have hm0 : 0 < m := by rcases Nat.eq_zero_or_pos m with h | h
                         · exact absurd (List.eq_nil_of_length_eq_zero (by omega)) h1
                         · exact h
  have hmu := Nat.mul_le_mul (show k + m ≤ 1000000000000 by omega) hb
  have hsm : k + m ≤ maxLen := by simp only [maxLen]; omega
  have hge := grownCap_ge w (k + m) k e
  have hcm := grownCap_le_maxLen w (k + m) k e hsm
  rcases hys.src hf (Hp.whole_in w) with ⟨_, _, hm0'⟩ | ⟨ad, c', hv, hcells⟩
  · omega
  cases hv
  have hfin : ∀ w' : World, (Builtin.append_ #[T, T] ty #[.slice a k k, .slice (some ad) m c]).run X.P w = .ok (.slice (some ⟨w.heap.size, 0, none⟩) (k + m) (grownCap w (k + m) k e)) (w.drew.alloc (.cells ((L.flatMap f).toArray ++ (L'.flatMap f).toArray ++ Builtin.zeroCells z.cells (grownCap w (k + m) k e - (k + m))) e)) →
      ∃ tv v w' s', (Builtin.append_ #[T, T] ty #[.slice a k k, .slice (some ad) m c]).run X.P w = .ok v w' ∧ Ok w0 s' w' ∧ Keep s s' ∧ tv.val s' = some v ∧ q tv s' := fun _ hr => by
    refine ⟨.v _, _, _, _, hr, hok.drew.alloc (.hp (Hp.one w.heap.size _)) _ rfl, Keep.app _ _, rfl, ?_⟩
    refine hq ⟨some ⟨w.heap.size, 0, none⟩, k + m, grownCap w (k + m) k e, Hp.one w.heap.size (.cells ((L.flatMap f).toArray ++ (L'.flatMap f).toArray ++ Builtin.zeroCells z.cells (grownCap w (k + m) k e - (k + m))) e)⟩
      ⟨by simp [hxl, hyl], ?_, .inr ⟨_, _, rfl, Hp.one_self _ _, hge, hcm, ?_, ?_⟩⟩
    · rw [fl]; simp [hxl, hyl]
    · simp only [Array.size_append, List.size_toArray, size_zeroCells, hzc, hzl, fl, ← hyl, ← hxl, ← Nat.add_mul]
      congr 1; omega
    · rw [List.flatMap_append]
      simp only [Array.toList_append, List.append_assoc]
      rw [← List.append_assoc]
      have : (L.flatMap f ++ L'.flatMap f).length = (k + m) * te.size := by rw [List.length_append, fl, fl, ← hyl, ← hxl, Nat.add_mul]
      rw [← this]
      exact List.take_left
  refine hfin w ?_
  rcases hxs.src hf (Hp.whole_in w) with ⟨c'', hv, hk0⟩ | ⟨bd, c'', hv, hold⟩
  · have hL0 : L = [] := List.eq_nil_of_length_eq_zero (by omega)
    subst hL0
    subst hk0
    cases hv
    have hr := run_append_nil (P := X.P) w T ty e inf z hu hinf hz ad m c (L'.flatMap f) (by rw [hs1, fl, hyl]) hcells hm0 (by simp only [maxLen] at hsm; omega) (by rw [hs2]; rw [Nat.zero_add] at hmu; omega)
    rw [hr]
    simp
  · cases hv
    exact run_append_grow (P := X.P) w T ty e inf z hu hinf hz bd k k (L.flatMap f) (by rw [hs1, fl, hxl]) hold ad m c (L'.flatMap f) (by rw [hs1, fl, hyl]) hcells (by omega) (by omega) (growslice_fits (by omega) (by rw [hs2]; omega))
end
end Go.Dw
namespace Go.Dw
open Go Go.RowKit

section
variable {P : Program} {ops : Array Oper} {Q : Exit → Act → World → Prop} {md : Region.Mode} {S : World → Prop} {N : Nat → Prop}
theorem sem0 {r : Option Nat} {o : Oper} (h : ∀ c, o.op ≠ .defer c) (ρ : Operand → Value) : o.semAt (F0 r).round ρ = execOp ρ o := Oper.semAt_eq _ _ _ h
theorem wpOpI_yields {r : Option Nat} {i : Nat} {o : Oper} {v : Value} {a : Act} (hd : ∀ c, o.op ≠ .defer c) (hi : ops[i]? = some o) (hy : YieldsIf P ops S o v a)
    {K : Act → World → Prop} {w : World} (hS : S w) (h : K (a.put o.dst v) w) : wpOpIn (F0 r) 0 P ops Q i K a w := by
  unfold wpOpIn
  simp only [hi]
  rcases hy with ⟨hw, hv⟩ | ⟨hw, rfl⟩
  · simp only [hw, if_true, Oper.wpIn]
    refine ⟨fun _ _ => trivial, ?_⟩
    rw [sem0 hd, hv w hS]
    exact h
  · simp only [hw, Bool.false_eq_true, if_false]; exact ⟨fun _ _ => trivial, h⟩
theorem wpOpI_putIf {r : Option Nat} {j : Nat} {oi oj : Oper} {v : Value} (hdj : ∀ c, oj.op ≠ .defer c) (hj : ops[j]? = some oj) (hap : oi.apart ops oj = true)
    (hsi : ∀ cs b, oi.op ≠ .select cs b) (hsj : ∀ cs b, oj.op ≠ .select cs b)
    (hQ : ∀ c a w, Q (.panic c) (a.put oi.dst v) w → Q (.panic c) a w) {K : Act → World → Prop} {a : Act} {w : World}
    (hy : YieldsIf P ops S oi v a) (h : wpOpIn (F0 r) 0 P ops Q j K (a.put oi.dst v) w) :
    wpOpIn (F0 r) 0 P ops Q j (fun a' w' => YieldsIf P ops S oi v a' ∧ K (a'.put oi.dst v) w') a w := by
  obtain ⟨h1, h2, h3⟩ := Oper.apart_spec hap
  have keep : ∀ (a : Act), YieldsIf P ops S oi v a → ∀ u, YieldsIf P ops S oi v (a.put oj.dst u) := fun a hy u =>
    hy.of_same (execOp_put oi hsi a oj.dst u h3) (wanted_put oi a oj.dst u h3)
  have keepD : ∀ d, YieldsIf P ops S oi v { a with defers := d :: a.defers } := fun d => hy.of_same rfl rfl
  unfold wpOpIn at *
  simp only [hj] at *
  rw [wanted_put oj a oi.dst v h1] at h
  split
  · rename_i hw
    simp only [hw, if_true] at h
    unfold Oper.wpIn at *
    refine ⟨fun _ _ => trivial, ?_⟩
    have h := h.2
    rw [sem0 hdj, execOp_put oj hsj a oi.dst v h1] at h
    rw [sem0 hdj]
    generalize (execOp a.eval oj).run P w = r at *
    cases r with
    | ok x w' =>
      cases x <;> simp only [Oper.uponIn] at h ⊢
      case value u => exact ⟨keep a hy u, by rw [← Act.put_comm a v u h2]; exact h⟩
      case skip => exact ⟨keep a hy _, by rw [← Act.put_comm a v undef h2]; exact h⟩
      case defer d =>
        refine ⟨keep _ (keepD d) _, ?_⟩
        rw [← Act.put_comm _ v undef h2, ← Act.put_defers]
        exact h
      case enter f args =>
        refine ⟨h.1, CallsIn.mono h.2 fun e w'' he => ?_⟩
        cases e with
        | returned u => exact ⟨keep a hy u, by rw [← Act.put_comm a v u h2]; exact he⟩
        | panicked c => exact hQ _ _ _ he
        | outgrown => exact he
      case row row args => exact ⟨h.1, RowsIn.mono h.2 fun u w'' he => ⟨keep a hy u, by rw [← Act.put_comm a v u h2]; exact he⟩⟩
      case round l f tmps assign body =>
        refine ⟨h.1, RoundIn.mono h.2 fun e w'' he => ?_⟩
        cases e with
        | returned u => exact ⟨keep a hy u, by rw [← Act.put_comm a v u h2]; exact he⟩
        | panicked c => exact hQ _ _ _ he
        | outgrown => exact he
    | halt x w' =>
      cases x <;> simp only [Oper.uponIn] at h ⊢
      case panic u => exact hQ _ _ _ h
  · rename_i hw
    simp only [hw] at h
    exact ⟨fun _ _ => trivial, keep a hy _, by rw [← Act.put_comm a v undef h2]; exact h.2⟩

/-- Whatever order is picked from here on; S holds behind each operation of which N asks it. -/
def wpAnyGI (r : Option Nat) (P : Program) (md : Region.Mode) (ops : Array Oper) (Q : Exit → Act → World → Prop) (S : World → Prop) (N : Nat → Prop) : Nat → Array Bool → Act → World → Prop
  | 0, listed, a, w => Region.ready md ops listed = [] ∧ Q .normal a w
  | fuel + 1, listed, a, w =>
    (Region.ready md ops listed = [] → Q .normal a w) ∧
    ∀ i ∈ Region.ready md ops listed, wpOpIn (F0 r) 0 P ops Q i (fun a' w' => (N i → S w') ∧ wpAnyGI r P md ops Q S N fuel (listed.setIfInBounds i true) a' w') a w

theorem wpAny_of_GI {r : Option Nat} : ∀ (fuel : Nat) (listed : Array Bool) (a : Act) (w : World), wpAnyGI r P md ops Q S N fuel listed a w → wpAnyIn (F0 r) 0 P md ops Q fuel listed a w
  | 0, _, _, _, h => h
  | fuel + 1, _, _, _, h => ⟨h.1, fun i hi => wpOpIn_mono (fun a' w' h' => wpAny_of_GI fuel _ a' w' h'.2) (h.2 i hi)⟩

theorem wpAnyGI_first {r : Option Nat} (hdf : ∀ (j : Nat) (o : Oper), ops[j]? = some o → ∀ c, o.op ≠ .defer c) {i : Nat} {oi : Oper} {v : Value} (hi : ops[i]? = some oi) (hsel : ∀ (j : Nat) (o : Oper) cs b, ops[j]? = some o → o.op ≠ .select cs b)
    (hQ : ∀ c a w, Q (.panic c) (a.put oi.dst v) w → Q (.panic c) a w)
    (hN : ∀ j oj, ops[j]? = some oj → (∀ e ∈ oj.after, Region.binds md e = true → e.on ≠ i) → N j) :
    ∀ (fuel : Nat) (listed : Array Bool) (a : Act) (w : World),
      (∀ j oj, ops[j]? = some oj → j ≠ i → listed.getD j true = false → (∀ e ∈ oj.after, Region.binds md e = true → e.on ≠ i) → oi.apart ops oj = true) →
      i ∈ Region.ready md ops listed → YieldsIf P ops S oi v a → S w →
      wpAnyGI r P md ops Q S N fuel (listed.setIfInBounds i true) (a.put oi.dst v) w → wpAnyGI r P md ops Q S N (fuel + 1) listed a w := by
  intro fuel
  induction fuel with
  | zero =>
    intro listed a w _ hr hy hS H
    refine ⟨fun h => (by rw [h] at hr; cases hr), fun j hj => ?_⟩
    by_cases hji : j = i
    · subst hji; exact wpOpI_yields (hdf _ _ hi) hi hy hS ⟨fun _ => hS, H⟩
    · have := ready_mono hj hji
      rw [H.1] at this
      cases this
  | succ fuel ih =>
    intro listed a w hfree hr hy hS H
    refine ⟨fun h => (by rw [h] at hr; cases hr), fun j hj => ?_⟩
    by_cases hji : j = i
    · subst hji; exact wpOpI_yields (hdf _ _ hi) hi hy hS ⟨fun _ => hS, H⟩
    · have h1 := H.2 j (ready_mono hj hji)
      obtain ⟨hjun, oj, hoj, hall⟩ := mem_ready.1 hj
      have hnot : ∀ e ∈ oj.after, Region.binds md e = true → e.on ≠ i := fun e he hb heq => by
        have h1 := hall e he hb
        have h0 := (mem_ready.1 hr).1
        rw [heq] at h1
        rcases Nat.lt_or_ge i listed.size with h' | h'
        · simp [h'] at h0 h1; rw [h0] at h1; cases h1
        · simp [Array.getElem?_eq_none h'] at h1
      have hNj := hN j oj hoj hnot
      have h2 := wpOpI_putIf (hdf _ _ hoj) hoj (hfree j oj hoj hji hjun hnot) (fun cs b => hsel i oi cs b hi) (fun cs b => hsel j oj cs b hoj) hQ hy h1
      have hfree' : ∀ k ok, ops[k]? = some ok → k ≠ i → (listed.setIfInBounds j true).getD k true = false →
          (∀ e ∈ ok.after, Region.binds md e = true → e.on ≠ i) → oi.apart ops ok = true := fun k ok hk hki hun hno => by
        refine hfree k ok hk hki ?_ hno
        by_cases hjk : j = k
        · subst hjk; exact hjun
        · rw [getD_set_ne true hjk] at hun; exact hun
      refine wpOpIn_mono (fun a' w' h3 => ⟨h3.2.1, ih (listed.setIfInBounds j true) a' w' hfree' (ready_mono hr (Ne.symm hji)) h3.1 (h3.2.1 hNj) ?_⟩) h2
      rw [Array.setIfInBounds_comm _ _ hji]
      exact h3.2.2

theorem wpAnyGI_done {r : Option Nat} {listed : Array Bool} {a : Act} {w : World} (hr : Region.ready md ops listed = []) (h : Q .normal a w) :
    ∀ fuel, wpAnyGI r P md ops Q S N fuel listed a w
  | 0 => ⟨hr, h⟩
  | _ + 1 => ⟨fun _ => h, by rw [hr]; simp⟩
end

def wrunI (X : Ctx) (ops : List Oper) (i : Nat) (need : Bool) (s0 : List Ch) (cont : Tm → List Ch → Prop) (t : Tm) (s : List Ch) : Prop := match lget ops i with
  | some o => wguard ops o t
      (fun t => wopY X s t o fun tv s' => putk X.n t o.dst tv fun t' => match need with | true => subL s0 s' ∧ cont t' s' | false => cont t' s')
      (fun t => putk X.n t o.dst (.v undef) fun t' => match need with | true => subL s0 s ∧ cont t' s | false => cont t' s)
  | none => False
def wdrawI (X : Ctx) (ops : List Oper) (takes : List Nat) (s0 : List Ch) : DT → (Tm → List Ch → Prop) → Tm → List Ch → Prop
  | .done, Q, t, s => Q t s
  | .take i k, Q, t, s => match lget ops i with
    | some o => match isQ o.op with
      | true => wguard ops o t
        (fun t => wq X s0 t o.op fun tv => putk X.n t o.dst tv fun t' => wdrawI X ops takes s0 k Q t' s)
        (fun t => putk X.n t o.dst (.v undef) fun t' => wdrawI X ops takes s0 k Q t' s)
      | false => False
    | none => False
  | .run i k, Q, t, s => wrunI X ops i (needR ops takes i k) s0 (fun t s => wdrawI X ops takes s0 k Q t s) t s
  | .two i k j k', Q, t, s => wrunI X ops i (needR ops takes i k) s0 (fun t s => wdrawI X ops takes s0 k Q t s) t s ∧ wrunI X ops j (needR ops takes j k') s0 (fun t s => wdrawI X ops takes s0 k' Q t s) t s
  | .three i k j k' m k'', Q, t, s => wrunI X ops i (needR ops takes i k) s0 (fun t s => wdrawI X ops takes s0 k Q t s) t s ∧ wrunI X ops j (needR ops takes j k') s0 (fun t s => wdrawI X ops takes s0 k' Q t s) t s ∧ wrunI X ops m (needR ops takes m k'') s0 (fun t s => wdrawI X ops takes s0 k'' Q t s) t s

section
variable {X : Ctx} {n : Nat} {t : Tm} {s : List Ch} {a : Act}
theorem wdrawI_ok (hX : X.Good) {r : Option Nat} {ds : List Deferred} {ops : List Oper} {takes : List Nat} {w0 : World} {Q : Exit → Act → World → Prop} {q : Tm → List Ch → Prop} {s0 : List Ch}
    (hQ : ∀ t s a w, Fr X.n t s a → Ok w0 s w → q t s → Q .normal (wd a ds) w) (hP : ∀ c a w, ¬ Q (.panic c) a w) (hsel : Region.noSelect ops.toArray = true) (hdf : ∀ (j : Nat) (o : Oper), ops.toArray[j]? = some o → ∀ c, o.op ≠ .defer c) :
    ∀ (d : DT) (fuel : Nat) (listed : Array Bool) (t : Tm) (s : List Ch) (a : Act) (w : World), d.steps ≤ fuel → d.ok ops.toArray listed = true → (∀ i ∈ d.takes, i ∈ takes) →
      wdrawI X ops takes s0 d q t s → Fr X.n t s a → Ok w0 s w → (d.takes ≠ [] → subL s0 s) →
      wpAnyGI r X.P .any ops.toArray Q (Mem s0) (fun j => needS ops takes j = true) fuel listed (wd a ds) w := by
  have hP' : ∀ (oi : Oper) (v : Value) c a w, Q (.panic c) (a.put oi.dst v) w → Q (.panic c) a w := fun _ _ c _ w h => absurd h (hP c _ w)
  have subval : ∀ {s s' : List Ch}, subL s s' → ∀ tv v, TV.val s tv = some v → TV.val s' tv = some v := by
    intro s s' hs tv v hv
    cases tv with
    | v x => exact hv
    | bx i off =>
      obtain ⟨b, cs, T, h1, h2⟩ := tv_bx hv
      simp [TV.val, (subL_spec hs i _ h1).resolve_right (fun e => by cases e), h2]
    | bs i n =>
      obtain ⟨b, cs, T, h1, h2⟩ := tv_bs hv
      simp [TV.val, (subL_spec hs i _ h1).resolve_right (fun e => by cases e), h2]
  have sub_mem : ∀ {s : List Ch} {w : World}, subL s0 s → Ok w0 s w → Mem s0 w := fun hs hok i c e => by
    rcases subL_spec hs i c e with h | rfl
    · exact hok.mem i c h
    · exact Hp.emp_in _
  have runc : ∀ (i : Nat) (k : DT) (fuel : Nat) (listed : Array Bool) (t : Tm) (s : List Ch) (a : Act) (w : World),
      (∀ (t : Tm) (s : List Ch) (a : Act) (w : World), wdrawI X ops takes s0 k q t s → Fr X.n t s a → Ok w0 s w → (k.takes ≠ [] → subL s0 s) →
        wpAnyGI r X.P .any ops.toArray Q (Mem s0) (fun j => needS ops takes j = true) fuel (listed.setIfInBounds i true) (wd a ds) w) →
      wrunI X ops i (needR ops takes i k) s0 (fun t s => wdrawI X ops takes s0 k q t s) t s → Fr X.n t s a → Ok w0 s w →
      wpOpIn (F0 r) 0 X.P ops.toArray Q i (fun a' w' => (needS ops takes i = true → Mem s0 w') ∧ wpAnyGI r X.P .any ops.toArray Q (Mem s0) (fun j => needS ops takes j = true) fuel (listed.setIfInBounds i true) a' w') (wd a ds) w := by
    intro i k fuel listed t s a w ih h hf hok
    unfold wrunI at h
    rw [lget_eq] at h
    cases ho : ops[i]? with
    | none => simp [ho] at h
    | some o =>
      simp only [ho] at h
      have fin : ∀ {t' : Tm} {s' : List Ch} {a' : Act} {w' : World}, (match needR ops takes i k with | true => subL s0 s' ∧ wdrawI X ops takes s0 k q t' s' | false => wdrawI X ops takes s0 k q t' s') →
          Fr X.n t' s' a' → Ok w0 s' w' → (needS ops takes i = true → Mem s0 w') ∧ wpAnyGI r X.P .any ops.toArray Q (Mem s0) (fun j => needS ops takes j = true) fuel (listed.setIfInBounds i true) (wd a' ds) w' := by
        intro t' s' a' w' hm hf' hok'
        cases hn : needR ops takes i k with
        | true =>
          simp only [hn] at hm
          exact ⟨fun _ => sub_mem hm.1 hok', ih t' s' a' w' hm.2 hf' hok' fun _ => hm.1⟩
        | false =>
          simp only [hn] at hm
          unfold needR at hn
          cases hs : needS ops takes i with
          | true => simp [hs] at hn
          | false =>
            simp only [hs] at hn
            refine ⟨(fun h => by cases h), ih t' s' a' w' hm hf' hok' fun hk => ?_⟩
            cases hkk : k.takes with
            | nil => exact absurd hkk hk
            | cons x xs => simp [hkk] at hn
      unfold wpOpIn
      have ho' : ops.toArray[i]? = some o := by simpa using ho
      simp only [ho']
      rcases wguard_sound hf h with ⟨hw, t', hf', hy⟩ | ⟨hw, t', hf', hn⟩
      · rw [if_pos (show Region.wanted o (yielded ops.toArray (wd a ds).tmps) = true from hw)]
        exact wopY_ok (r := r) (ds := ds) hX hf' hy hok fun tv v s' w' hok' hk hv hp => by
          obtain ⟨t'', h1, h2⟩ := (hf'.keep hk).putk hv hp
          exact fin h1 h2 hok'
      · rw [if_neg (show ¬ Region.wanted o (yielded ops.toArray (wd a ds).tmps) = true by rw [show (wd a ds).tmps = a.tmps from rfl, hw]; simp)]
        obtain ⟨t'', h1, h2⟩ := hf'.putk (tv := .v undef) rfl hn
        rw [wd_put]
        exact ⟨fun _ _ => trivial, fin h1 h2 hok⟩
  intro d
  induction d with
  | done =>
    intro fuel listed t s a w _ hok _ h hf hw _
    exact wpAnyGI_done (by simpa [DT.ok] using hok) (hQ t s a w hf hw h) fuel
  | take i k ih =>
    intro fuel listed t s a w hst hok htk h hf hw hsub
    have hs0 : subL s0 s := hsub (by simp [DT.takes])
    cases fuel with
    | zero => simp [DT.steps] at hst
    | succ fuel =>
      simp only [DT.ok, Bool.and_eq_true] at hok
      obtain ⟨⟨hr, hfree⟩, hk⟩ := hok
      simp only [wdrawI] at h
      rw [lget_eq] at h
      cases ho : ops[i]? with
      | none => simp [ho] at h
      | some o =>
        simp only [ho] at h
        have ho' : ops.toArray[i]? = some o := by simpa using ho
        cases hq : isQ o.op with
        | false => simp [hq] at h
        | true =>
          simp only [hq] at h
          have main : ∀ (v : Value) (t'' : Tm), YieldsIf X.P ops.toArray (Mem s0) o v (wd a ds) → Fr X.n t'' s (a.put o.dst v) → wdrawI X ops takes s0 k q t'' s →
              wpAnyGI r X.P .any ops.toArray Q (Mem s0) (fun j => needS ops takes j = true) (fuel + 1) listed (wd a ds) w := by
            intro v t'' hy hf'' hd
            refine wpAnyGI_first hdf ho' (Region.noSelect_spec hsel) (hP' o v) (fun j oj hj hno => ?_) fuel listed (wd a ds) w (Region.free_spec ho' hfree) (by simpa using hr) hy (sub_mem hs0 hw)
              (by rw [wd_put]; exact ih fuel _ t'' s _ w (by simp [DT.steps] at hst; omega) hk (fun j hj => htk j (by simp [DT.takes, hj])) hd hf'' hw fun _ => hs0)
            unfold needS
            refine List.any_eq_true.2 ⟨i, htk i (by simp [DT.takes]), ?_⟩
            rw [lget_eq]
            have hj' : ops[j]? = some oj := by simpa using hj
            simp only [hj', Bool.not_eq_true', List.any_eq_false, Bool.and_eq_true, not_and]
            intro e he hb heq
            exact hno e (Array.mem_toList_iff.1 he) hb (Nat.eq_of_beq_eq_true heq)
          rcases wguard_sound hf h with ⟨hwt, t', hf', hy⟩ | ⟨hwt, t', hf', hn⟩
          · have hfw : Frw t' s0 a := fun j tv v h1 h2 => hf'.w j tv v h1 (subval hs0 tv v h2)
            obtain ⟨tv, v, h1, h2, h3⟩ := wq_ok hX hfw hq hy
            obtain ⟨t'', h4, h5⟩ := hf'.putk (subval hs0 tv v h1) h2
            exact main v t'' (.inl ⟨hwt, fun w' hw' => by rw [show (wd a ds).eval = a.eval from wd_eval a ds]; exact h3 w' hw'⟩) h5 h4
          · obtain ⟨t'', h4, h5⟩ := hf'.putk (tv := .v undef) rfl hn
            exact main undef t'' (.inr ⟨hwt, rfl⟩) h5 h4
  | run i k ih =>
    intro fuel listed t s a w hst hok htk h hf hw hsub
    cases fuel with
    | zero => simp [DT.steps] at hst
    | succ fuel =>
      simp only [DT.ok, Bool.and_eq_true, decide_eq_true_eq] at hok
      refine ⟨(fun h0 => by rw [hok.1] at h0; cases h0), fun i' hi' => ?_⟩
      rw [hok.1] at hi'
      have : i' = i := by simpa using hi'
      subst this
      exact runc i' k fuel listed t s a w (fun t s a w h hf hw hs => ih fuel _ t s a w (by simp [DT.steps] at hst; omega) hok.2 (fun j hj => htk j (by simpa [DT.takes] using hj)) h hf hw hs) h hf hw
  | two i k j k' ih ih' =>
    intro fuel listed t s a w hst hok htk h hf hw hsub
    cases fuel with
    | zero => simp [DT.steps] at hst
    | succ fuel =>
      simp only [DT.ok, Bool.and_eq_true, decide_eq_true_eq] at hok
      simp only [DT.steps] at hst
      have hm := Nat.le_max_left k.steps k'.steps
      have hm' := Nat.le_max_right k.steps k'.steps
      refine ⟨(fun h0 => by rw [hok.1.1] at h0; cases h0), fun i' hi' => ?_⟩
      rw [hok.1.1] at hi'
      rcases (by simpa using hi' : i' = i ∨ i' = j) with rfl | rfl
      · exact runc i' k fuel listed t s a w (fun t s a w h hf hw hs => ih fuel _ t s a w (Nat.le_trans hm (Nat.le_of_succ_le_succ hst)) hok.1.2 (fun j hj => htk j (by simp [DT.takes, hj])) h hf hw hs) h.1 hf hw
      · exact runc i' k' fuel listed t s a w (fun t s a w h hf hw hs => ih' fuel _ t s a w (Nat.le_trans hm' (Nat.le_of_succ_le_succ hst)) hok.2 (fun j hj => htk j (by simp [DT.takes, hj])) h hf hw hs) h.2 hf hw
  | three i k j k' m k'' ih ih' ih'' =>
    intro fuel listed t s a w hst hok htk h hf hw hsub
    cases fuel with
    | zero => simp [DT.steps] at hst
    | succ fuel =>
      simp only [DT.ok, Bool.and_eq_true, decide_eq_true_eq] at hok
      simp only [DT.steps] at hst
      have hm0 := Nat.le_max_left (Nat.max k.steps k'.steps) k''.steps
      have hm := Nat.le_trans (Nat.le_max_left k.steps k'.steps) hm0
      have hm' := Nat.le_trans (Nat.le_max_right k.steps k'.steps) hm0
      have hm'' := Nat.le_max_right (Nat.max k.steps k'.steps) k''.steps
      refine ⟨(fun h0 => by rw [hok.1.1.1] at h0; cases h0), fun i' hi' => ?_⟩
      rw [hok.1.1.1] at hi'
      rcases (by simpa using hi' : i' = i ∨ i' = j ∨ i' = m) with rfl | rfl | rfl
      · exact runc i' k fuel listed t s a w (fun t s a w h hf hw hs => ih fuel _ t s a w (Nat.le_trans hm (Nat.le_of_succ_le_succ hst)) hok.1.1.2 (fun j hj => htk j (by simp [DT.takes, hj])) h hf hw hs) h.1 hf hw
      · exact runc i' k' fuel listed t s a w (fun t s a w h hf hw hs => ih' fuel _ t s a w (Nat.le_trans hm' (Nat.le_of_succ_le_succ hst)) hok.1.2 (fun j hj => htk j (by simp [DT.takes, hj])) h hf hw hs) h.2.1 hf hw
      · exact runc i' k'' fuel listed t s a w (fun t s a w h hf hw hs => ih'' fuel _ t s a w (Nat.le_trans hm'' (Nat.le_of_succ_le_succ hst)) hok.2 (fun j hj => htk j (by simp [DT.takes, hj])) h hf hw hs) h.2.2 hf hw

def noDef (ops : List Oper) : Bool := ops.all fun o => match o.op with | .defer _ => false | _ => true
theorem noDef_spec {ops : List Oper} (h : noDef ops = true) (j : Nat) (o : Oper) (hj : ops.toArray[j]? = some o) (c : Call) : o.op ≠ .defer c := fun e => by
  have hm : o ∈ ops := by
    have : ops[j]? = some o := by simpa using hj
    exact List.mem_of_getElem? this
  have := List.all_eq_true.1 h o hm
  rw [e] at this; cases this
/-- The way through a region that draws, in a round or with calls of yield: an order (checked by computation), and what is to be shown along it. -/
theorem NeedDI.by_order0 {X : Ctx} (hX : X.Good) {ops : List Oper} {Q : Tm → List Ch → Prop} {t : Tm} {s s0 : List Ch} (d : DT) (hd : (noDef ops && d.fine ops) = true) (hs : subL s0 s) (h : wdrawI X ops d.takes s0 d Q t s) : NeedDI X ops Q t s := by
  refine ⟨fun r ds w0 w a Q' hok hf hQ hP => ?_⟩
  unfold DT.fine at hd
  simp only [Bool.and_eq_true] at hd
  obtain ⟨h0, ⟨h1, h2⟩, h3⟩ := hd
  have hlen : ops.toArray.size = ops.length := by simp
  rw [hlen]
  exact wpAny_of_GI _ _ _ _ (wdrawI_ok hX (fun t s a w hf hok hq => hQ t s a w hok hf hq) hP h1 (noDef_spec h0) d ops.length _ t s a _ (Nat.le_of_ble_eq_true h2) h3 (fun i hi => hi) h hf hok.drew fun _ => hs)
theorem NeedDI.by_order {X : Ctx} (hX : X.Good) {ops : List Oper} {Q : Tm → List Ch → Prop} {t : Tm} {s : List Ch} (d : DT) (hd : (noDef ops && d.fine ops) = true) (h : wdrawI X ops d.takes s d Q t s) : NeedDI X ops Q t s :=
  NeedDI.by_order0 hX d hd (subL_refl s) h
end
end Go.Dw
namespace Go.Dw
open Go Go.RowKit
theorem str_ext {x y : ByteArray} (h : x.toList = y.toList) : x = y := by
  rw [ByteArray.toList_eq, ByteArray.toList_eq] at h
  obtain ⟨⟨x⟩⟩ := x
  obtain ⟨⟨y⟩⟩ := y
  simp only at h
  rw [h]
theorem str_eq (x y : ByteArray) : (x.toList == y.toList) = decide (x = y) := by
  rw [Bool.eq_iff_iff, beq_iff_eq, decide_eq_true_eq]
  exact ⟨str_ext, fun h => by rw [h]⟩
/-- one string stands before another -/
def sLt (x y : ByteArray) : Bool := Op.bytesLess x.toList y.toList
section
variable {P : Program} {s : List Ch} {xo yo : Operand} {ty : Nat} {x y : ByteArray} {q : TV → Prop}
theorem qEqS (h : q (.v (.bool (decide (x = y))))) : NeedQ P s (do eqGuard .eql ty xo yo (.string x) (.string y); binOp .eql ty (.string x) (.string y)) q := by
  refine ⟨_, fun w _ => ?_, h⟩
  have hg : (eqGuard .eql ty xo yo (.string x) (.string y)).run P w = .ok () w := by simp [eqGuard]
  rw [Sem.run_bind, hg, Result.andThen_ok, binOp_string_eql, str_eq]
  rfl
theorem qNeS (h : q (.v (.bool (decide (x ≠ y))))) : NeedQ P s (do eqGuard .neq ty xo yo (.string x) (.string y); binOp .neq ty (.string x) (.string y)) q := by
  refine ⟨_, fun w _ => ?_, h⟩
  have hg : (eqGuard .neq ty xo yo (.string x) (.string y)).run P w = .ok () w := by simp [eqGuard]
  rw [Sem.run_bind, hg, Result.andThen_ok, binOp_string_neq, str_eq, ← decide_not]
  rfl
theorem qGeS (h : q (.v (.bool (!sLt x y)))) : NeedQ P s (do eqGuard .geq ty xo yo (.string x) (.string y); binOp .geq ty (.string x) (.string y)) q := by
  refine ⟨_, fun w _ => ?_, h⟩
  have hg : (eqGuard .geq ty xo yo (.string x) (.string y)).run P w = .ok () w := by simp [eqGuard]
  rw [Sem.run_bind, hg, Result.andThen_ok, binOp_string_geq]
  rfl
theorem qLeS (h : q (.v (.bool (sLt x y || decide (x = y))))) : NeedQ P s (do eqGuard .leq ty xo yo (.string x) (.string y); binOp .leq ty (.string x) (.string y)) q := by
  refine ⟨_, fun w _ => ?_, h⟩
  have hg : (eqGuard .leq ty xo yo (.string x) (.string y)).run P w = .ok () w := by simp [eqGuard]
  rw [Sem.run_bind, hg, Result.andThen_ok, binOp_string_leq, str_eq]
  rfl
/-- byte i of a string -/
theorem get_bang {x : ByteArray} {i : Nat} (h : i < x.size) : x[i]'h = x.get! i := by
  obtain ⟨a⟩ := x
  exact (getElem!_pos a i h).symm
theorem qIdxS {X : Ctx} (hX : X.Good) {S : Nat} {ti : TI} (ht : tget X.tt S = some ti) (hk : ti.k = .str) {k : IntKind} {i : Int} (n : Nat) (hi : i = n) (hn : n < x.size) (h : q (.v (.int .u8 ((x.get! n).toNat : Int)))) : NeedQ X.P s (Instr.index S (.string x) (.int k i)) q := by
  subst hi
  refine ⟨_, fun w _ => ?_, h⟩
  obtain ⟨_, sz, by', z⟩ := ti
  dsimp only at hk
  subst hk
  have hu := (Good.und hX ht).2
  have hun : X.P.underlying S = some .string := by rw [show X.P.underlying S = _ from hu]
  rw [run_index_string w S x k n hun, dif_pos ⟨Int.natCast_nonneg _, by omega⟩]
  rw [← get_bang hn]
  rfl
end
/-! ### ranging over runes -/
theorem rangeSt {X : Ctx} (hX : X.Good) {s : List Ch} {S : Nat} {ti : TI} (ht : tget X.tt S = some ti) (hk : ti.k = .str) {x : ByteArray} {q : TV → List Ch → Prop} (h : ∀ b, q (.v (.pointer (some ⟨b, 0, none⟩))) (s ++ [.hp (Hp.one b (.stringIter x 0))])) : NeedE X.P s (Instr.range S (.string x)) q := by
  obtain ⟨_, sz, by', z⟩ := ti
  dsimp only at hk
  subst hk
  have hu := (Good.und hX ht).2
  refine ⟨fun w0 w hok => ⟨_, _, w.alloc (.stringIter x 0), _, ?_, hok.alloc (.hp (Hp.one w.heap.size (.stringIter x 0))) _ rfl, ?_, rfl, h w.heap.size⟩⟩
  · have hun : (underlying S).run X.P w = .ok .string w := by simp [underlying, show X.P.underlying S = _ from hu]
    simp only [Instr.range, Sem.run_bind, hun, Result.andThen_ok, Sem.run_pure]
    simp [newObj]
    rfl
  · exact Keep.app _ _
theorem nextSt {P : Program} {s : List Ch} {ty i b : Nat} {x : ByteArray} {pos : Nat} (hi : sget s i = some (.hp (Hp.one b (.stringIter x pos)))) {q : TV → List Ch → Prop}
    (h1 : pos < x.size → q (.v (.tuple #[.bool true, .int .i64 pos, .int .i32 (Utf8.decode x pos).1])) (sset s i (.hp (Hp.one b (.stringIter x (pos + (Utf8.decode x pos).2))))))
    (h2 : ¬ pos < x.size → q (.v (.tuple #[.bool false])) s) : NeedE P s (Instr.next (.pointer (some ⟨b, 0, none⟩)) true ty) q := by
  refine ⟨fun w0 w hok => ?_⟩
  have hb : w.heap[b]? = some (.stringIter x pos) := hok.mem i _ hi _ _ (Hp.one_self _ _)
  have hg : (getObj b).run P w = .ok (.stringIter x pos) w := by simp [getObj, Sem.run, hb]
  by_cases hp : pos < x.size
  · have hok2 := hok.putObj hi (Hp.one_self _ _) (.stringIter x (pos + (Utf8.decode x pos).2))
    rw [one_upd] at hok2
    refine ⟨_, _, _, _, ?_, hok2, Keep.set hi (fun b cs T e => by cases e), rfl, h1 hp⟩
    have hs : (setObj b (.stringIter x (pos + (Utf8.decode x pos).2))).run P w = .ok () (w.putObj b (.stringIter x (pos + (Utf8.decode x pos).2))) := by simp [setObj, Sem.run, hb, World.putObj]
    simp only [Instr.next, Sem.run_bind, hg, Result.andThen_ok, if_pos hp]
    rw [hs]
    rfl
  · refine ⟨_, _, w, s, ?_, hok, Keep.refl s, rfl, h2 hp⟩
    simp only [Instr.next, Sem.run_bind, hg, Result.andThen_ok, if_neg hp]
    rfl
theorem decode_low {x : ByteArray} {i : Nat} (h : (x.get! i).toNat < 128) : Utf8.decode x i = ((x.get! i).toNat, 1) := by
  rw [Lib.decode_at]; unfold Lib.decodeN; rw [if_pos h]
theorem decode_high {x : ByteArray} {i : Nat} (h : 128 ≤ (x.get! i).toNat) : 128 ≤ (Utf8.decode x i).1 := by
  rw [Lib.decode_at]; unfold Lib.decodeN
  rw [if_neg (by omega)]
  repeat' split
  all_goals (dsimp only; omega)
end Go.Dw
