/- Parts of one proof, joined: Dws, Dwt, Kt, Ku, Kv, Kx, Kw, Ky, Kz, N1. No condition of its own. -/
import Derived.Test.YtoholjdojdmbkaaGreatDoorXD
import Derived.Test.YtoholjdojdmbkaaGreatDoorXB
import Derived.Laws.CopyRow
import Derived.Test.YtoholjdojdmbkaaGreatDoorXF
import Derived.Laws.IdiomStrings
import Derived.Test.YtoholjdojdmbkaaGreatDoorXK
import Derived.Shelf.GgClosure.StringsIndexFunc
import Derived.Laws.RangeString
import Derived.Laws.RangeAny
import Derived.Test.YtoholjdojdmbkaaGreatDoorYJu
import Derived.Tactics
import Derived.Tactics2
import Derived.Defers
import Derived.Laws.Pointers
import Derived.Laws.LoneSync
import Derived.RegionTactic
import Derived.RegionCalls
import Derived.ChangeAlike
import Derived.Shelf.Abstract
import Derived.Test.YtoholjdojdmbkaaGreatDoorXI
import Derived.Test.YtoholjdojdmbkaaGreatDoorXC
import Derived.Laws.BytesArg
import Derived.Test.YtoholjdojdmbkaaGreatDoorXQ
import Derived.Test.YtoholjdojdmbkaaGreatDoorYJv
namespace Go.Dw
open Go Go.RowKit
theorem Ok.boxSet {w0 w : World} {s : List Ch} (hok : Ok w0 s w) {i b T : Nat} {cs : List Value} (hi : sget s i = some (.box b cs T)) (j : Nat) (v : Value) : Ok w0 (sset s i (.box b (cs.set j v) T)) (w.setCell ⟨b, j, none⟩ v) := by
  have hblk : w.heap[b]? = some (.cells cs.toArray T (0, 0)) := hok.mem i _ hi b _ (Hp.one_self b _)
  rw [setCell_eq_setRow w b j cs.toArray T (0, 0) v hblk]
  have e : cs.toArray.setIfInBounds j v = (cs.set j v).toArray := by simp
  rw [e]
  refine hok.upd hi _ rfl rfl rfl (by simp [World.setRow]) (Nat.le_refl _) (fun k _ hk => setRow_other w b k _ fun e => ?_) ?_ (fun k hk => .inl ?_)
  · subst e
    rw [show (Ch.box k cs T).h k = some _ from Hp.one_self k _] at hk; cases hk
  · intro k o hk
    simp only [Ch.h, Hp.one] at hk
    split at hk
    · rename_i e; subst e; cases hk
      exact setRow_heap w k _ _ _ _ hblk
    · cases hk
  · simp only [Ch.h, Hp.one] at hk ⊢
    split at hk
    · rename_i e; subst e; rw [if_pos rfl]; simp
    · exact absurd rfl hk
section
variable {X : Ctx} {s : List Ch}
/-- copy(buf[k:], m): an owned slice of one-cell elements; m reads -/
theorem cpyO {α : Type} {f : α → List Value} (hX : X.Good) {T ST e ty : Nat} {te : TI} (hT : elsz X T = some (e, te)) (h1 : te.size = 1) (hf : ∀ x, (f x).length = 1) {i : Nat} {o : Os} (hi : sget s i = some (.hp o.h)) {b k : Nat} (hb : o.a = some ⟨b, 0, none⟩) {L M : List α} (ho : OwnO f e 1 o L) (hk : k + M.length ≤ L.length) (hM : M ≠ [])
    {a : Addr} {c' m sc : Nat} (hm : m = M.length) (hsrc : ∀ w, Mem s w → ∀ j v, (M.flatMap f)[j]? = some v → w.cell? (a.add j) = some v) (hone : allOne (M.flatMap f) = true) {q : TV → List Ch → Prop}
    (hq : ∀ o', o'.a = o.a → o'.n = o.n → o'.c = o.c → OwnO f e 1 o' (L.take k ++ M ++ L.drop (k + M.length)) → q (.v (.int .i64 M.length)) (sset s i (.hp o'.h))) :
    NeedE X.P s (Builtin.copy_ #[T, ST] ty #[.slice (some ⟨b, 0 + k * te.size, none⟩) (o.n - k) c', .slice (some a) m sc]) q := by
  have hn := ho.len
  subst hm
  have hML : 0 < M.length := List.length_pos_iff.2 hM
  obtain ⟨hu, hg⟩ := elsz_spec hX hT
  obtain ⟨⟨inf, hinf, hs1, _⟩, _⟩ := hg
  rw [h1, Nat.mul_one, Nat.zero_add]
  have hfl : ∀ K : List α, (K.flatMap f).length = K.length := fun K => by rw [flatN hf, Nat.mul_one]
  refine ⟨fun w0 w hok => ?_⟩
  rcases ho.2.2 with ⟨h0, _⟩ | ⟨b', arr, e1, h2, h3, h4, h5, h6⟩
  · omega
  · rw [hb] at e1; cases e1
    have hblk := hok.mem i _ hi b _ h2
    have hr := run_copy_row X.P w T ST ty e b k (o.n - k) c' a M.length sc arr e (M.flatMap f) hu (by rw [hinf, ← h1, ← hs1]; rfl) hblk (by rw [hfl]; show _ = min _ _; omega) (hsrc w hok.mem) (by rw [hfl]; omega) (fun v hv => allOne_sound hone v hv)
    rw [hfl] at hr
    refine ⟨.v (.int .i64 M.length), _, _, sset s i (.hp (o.h.upd b (.cells (arr.toList.take k ++ M.flatMap f ++ arr.toList.drop (k + M.length)).toArray e (0, 0)))), hr, Own.row hok hi h2, Keep.set hi (fun b cs T e => by cases e), rfl, hq ⟨o.a, o.n, o.c, _⟩ rfl rfl rfl ⟨?_, ?_, .inr ⟨b, _, hb, Hp.upd_self _ _ _, h3, h4, ?_, ?_⟩⟩⟩
    · simp only [List.length_append, List.length_take, List.length_drop]; omega
    · rw [hfl]; simp only [List.length_append, List.length_take, List.length_drop]; omega
    · simp only [List.size_toArray, List.length_append, List.length_take, List.length_drop, Array.length_toList, hfl]; omega
    · simp only [Nat.mul_one]
      rw [Nat.mul_one] at h6
      rw [List.flatMap_append, List.flatMap_append]
      have f1 : (L.take k).flatMap f = arr.toList.take k := by
        have := flat_take hf L k; rw [Nat.mul_one] at this
        rw [← this, ← h6, List.take_take, Nat.min_eq_left (by omega)]
      have f2 : (L.drop (k + M.length)).flatMap f = (arr.toList.take o.n).drop (k + M.length) := by
        have := flat_drop hf L (k + M.length); rw [Nat.mul_one] at this
        rw [← this, ← h6]
      rw [f1, f2]
      have hl : (arr.toList.take k ++ M.flatMap f).length = k + M.length := by
        simp only [List.length_append, List.length_take, Array.length_toList, hfl]; omega
      rw [List.take_append, hl, List.take_of_length_le (by omega), List.drop_take]
end
end Go.Dw
namespace Go.Dw
open Go Go.RowKit
section
variable {X : Ctx} {s : List Ch}
theorem hideY {all r : List Oper} {q : Tm → List Ch → Prop} {t : Tm} {s : List Ch} (h : ∀ q' : Tm → List Ch → Prop, (∀ t s, q t s → q' t s) → wopsY X all r q' t s) : wopsY X all r q t s := h q fun _ _ h => h
theorem normY {all r : List Oper} {q : Tm → List Ch → Prop} {t : Tm} {s : List Ch} (s' : List Ch) (hs : s = s') (h : wopsY X all r q t s') : wopsY X all r q t s := by subst hs; exact h
theorem qRemE {P : Program} {ty : Nat} {q : TV → Prop} {k : IntKind} (a b d : Nat) {x y : Int} (hx : x = a) (hy : y = b) (hb : 0 < b) (hd : d = a % b) (h : q (.v (.int k d))) : NeedQ P s (binOp .rem ty (.int k x) (.int k y)) q := by
  subst hx hy hd
  refine ⟨_, fun w _ => ?_, h⟩
  have h0 : ¬ b = 0 := by omega
  simp [binOp, Op.intDiv, h0, Int.tmod_eq_emod_of_nonneg (show (0 : Int) ≤ (a : Int) by omega)]
theorem qQuoE {P : Program} {ty : Nat} {q : TV → Prop} (a b d : Nat) {x y : Int} (hx : x = a) (hy : y = b) (hb : 0 < b) (ha : a < 9223372036854775808) (hd : d = a / b) (h : q (.v (.int .i64 d))) : NeedQ P s (binOp .quo ty (.int .i64 x) (.int .i64 y)) q := by
  subst hx hy
  refine ⟨_, fun w _ => ?_, h⟩
  have h0 : ¬ b = 0 := by omega
  have hd' : d < 9223372036854775808 := by rw [hd]; exact Nat.lt_of_le_of_lt (Nat.div_le_self a b) ha
  have hw : IntKind.i64.wrap (d : Int) = d := by rw [IntKind.wrap_i64]; omega
  rw [hd, Int.natCast_ediv] at hw
  rw [hd]
  simp [binOp, Op.intDiv, h0]
  exact hw
/-- make([]T, 0, m) -/
theorem mkC {α : Type} {f : α → List Value} (hX : X.Good) {T e : Nat} {te : TI} (hT : elsz X T = some (e, te)) (m : Nat) {l c : Int} (hl : l = 0) (hc : c = m) (hby : te.bytes * m ≤ 281474976710656) (hm : m ≤ 1000000000000) {q : TV → List Ch → Prop}
    (hq : ∀ o : Os, OwnO f e te.size o [] → q (.v o.v) (s ++ [.hp o.h])) : NeedE X.P s (Instr.makeSlice T (.int .i64 l) (.int .i64 c)) q := by
  subst hl; subst hc
  obtain ⟨hu, hg⟩ := elsz_spec hX hT
  obtain ⟨⟨inf, hinf, hs1, hs2, z, hz, hzc, hzl⟩, _⟩ := hg
  refine ⟨fun w0 w hok => ?_⟩
  have hr := run_make (P := X.P) w T e inf z hu hinf hz .i64 .i64 0 m (by omega) (by omega) (by rw [hs2]; have h9 : ((te.bytes * m : Nat) : Int) ≤ 281474976710656 := (by omega); simpa using h9) (by omega)
  simp only [Int.toNat_natCast, hs1, hzc] at hr
  have hm : madeCells te.zero.toArray (m * te.size) = (repL m te.zero).toArray := by
    have := repL_eq te.zero m
    rw [hzl] at this
    simpa [madeCells, hzl] using this
  rw [hm] at hr
  refine ⟨.v _, _, _, _, hr, hok.alloc (.hp (Hp.one w.heap.size _)) _ rfl, Keep.app s _, rfl, hq ⟨some ⟨w.heap.size, 0, none⟩, 0, m, _⟩ ⟨rfl, by simp, .inr ⟨_, _, rfl, Hp.one_self _ _, Nat.zero_le _, by simp only [maxLen]; omega, ?_, by simp⟩⟩⟩
  have hlen : (repL m te.zero).length = m * te.size := by
    clear hr hm hq hby
    induction m with
    | zero => simp [repL]
    | succ n ih => simp [repL, hzl, ih (by omega), Nat.succ_mul, Nat.add_comm]
  simpa using hlen
/-- []byte(s) -/
theorem cvtE (hX : X.Good) {S T e : Nat} {ti te : TI} (hS : tget X.tt S = some ti) (hk : ti.k = .str) (hT : elsz X T = some (e, te)) (he : te.k = .int .u8) {l : List UInt8} {q : TV → List Ch → Prop}
    (hq : ∀ b c h, (∀ j (hj : j < l.length), h.cell? ⟨b, j, none⟩ = some (.int .u8 l[j].toNat)) → (∀ i d, sget s i = some d → d.h.dj h) → q (.v (.slice (some ⟨b, 0, none⟩) l.length c)) (s ++ [.hp h])) : NeedE X.P s (convert S T (.string (bs l))) q := by
  have hu : X.P.underlying S = some .string := by
    have := (Good.und hX hS).2
    obtain ⟨tk, _, _, _⟩ := ti
    dsimp only at hk
    subst hk
    exact this
  obtain ⟨hd, hg⟩ := elsz_spec hX hT
  have hue : X.P.underlying e = some (.int .u8) := by
    have := hg.2
    obtain ⟨tk, _, _, _⟩ := te
    dsimp only at he
    subst he
    exact this
  refine ⟨fun w0 w hok => ?_⟩
  have hr := run_bytes_of_string (P := X.P) w S T e (bs l) hu hd hue
  rw [bs_size] at hr
  refine ⟨.v (.slice (some ⟨w.heap.size, 0, none⟩) l.length _), _, _, s ++ [.hp (Hp.one w.heap.size _)], hr, hok.drew.alloc (.hp (Hp.one w.heap.size _)) _ rfl, Keep.app s _, rfl, hq w.heap.size _ _ (fun j hj => ?_) fun i d hi x => ?_⟩
  · unfold Hp.cell?
    dsimp only
    rw [Hp.one_self]
    have := bytesRow_at (bs l) (grownCap w l.length 0 e) j (by show j < l.toArray.size; simpa using hj)
    dsimp only
    rw [this]
    rfl
  · by_cases hx : x = w.heap.size
    · exact .inl ((hok.mem i d hi).none (by omega))
    · exact .inr (by unfold Hp.one; rw [if_neg hx])
end
/-! ### A box that a pointer's value leads to -/
section
variable {X : Ctx} {s : List Ch}
theorem bx_cell {i b T' : Nat} {cs : List Value} (hi : sget s i = some (.box b cs T')) {j : Nat} {v : Value} (hc : cs[j]? = some v) {w : World} (hm : Mem s w) : w.cell? ⟨b, j, none⟩ = some v := by
  have hb : w.heap[b]? = some (.cells cs.toArray T' (0, 0)) := hm i _ hi b _ (Hp.one_self b _)
  simp [World.cell?, hb, hc]
theorem ldBx (hX : X.Good) {T : Nat} {i b T' : Nat} {cs : List Value} (hi : sget s i = some (.box b cs T')) {j : Nat} {v : Value} (hc : cs[j]? = some v) (hT : (tget X.tt T).map TI.agg = some false) {q : TV → Prop} (hq : q (.v v)) :
    NeedQ X.P s (Instr.loadAt T (.pointer (some ⟨b, 0 + j, none⟩))) q := by
  refine ⟨v, fun w hm => ?_, hq⟩
  cases ht : tget X.tt T with
  | none => simp [ht] at hT
  | some ti =>
    have ha : ti.agg = false := by simpa [ht] using hT
    have hg := Good.und hX ht
    have := bx_cell hi hc hm
    rw [Nat.zero_add]
    simp [Instr.loadAt, Instr.sureAddr, loadVar, hg.agg, ha, this]
theorem stBx (hX : X.Good) {T : Nat} {i b T' : Nat} {cs : List Value} (hi : sget s i = some (.box b cs T')) {j : Nat} {v : Value} (hv : v.cells = #[v]) (hone : v.oneCell' = true) (hj : j < cs.length) {ti : TI} (hT : tget X.tt T = some ti) (h1 : ti.size = 1) {q : List Ch → Prop}
    (hq : q (sset s i (.box b (cs.set j v) T'))) : NeedU X.P s (Instr.storeAt T (.pointer (some ⟨b, 0 + j, none⟩)) v) q := by
  refine ⟨fun w0 w hok => ?_⟩
  have hblk := hok.mem i _ hi b _ (Hp.one_self b _)
  have hst := run_storeCells_at X.P b (0 + j) T' [v] 0 cs.toArray w hblk (by simp; omega) (fun x hx => by rw [List.mem_singleton.1 hx]; exact hone)
  simp only [Nat.add_zero, Nat.zero_add, List.length_singleton] at hst
  have hset : cs.take j ++ [v] ++ cs.drop (j + 1) = cs.set j v := by
    rw [List.set_eq_take_append_cons_drop, if_pos hj]; simp
  have hw : w.setRow b (cs.toArray.toList.take j ++ [v] ++ cs.toArray.toList.drop (j + 1)).toArray = w.setCell ⟨b, j, none⟩ v := by
    rw [setCell_eq_setRow w b j cs.toArray T' (0, 0) v hblk]
    congr 1
    show (cs.take j ++ [v] ++ cs.drop (j + 1)).toArray = _
    rw [hset]; simp
  refine ⟨_, _, ?_, hok.boxSet hi j v, Keep.set hi (fun b' cs' T e => by cases e; exact ⟨_, _, rfl⟩), hq⟩
  rw [← hw]
  simp [Instr.storeAt, Instr.sureAddr, storeVar, (Good.und hX hT).size, h1, hv, hst]
end
/-! ### A function entered in the caller's own chunks -/
def keepL : List Ch → List Ch → Prop
  | .box b _ _ :: r, .box b' _ _ :: r' => b = b' ∧ keepL r r'
  | .box _ _ _ :: _, _ => False
  | .hp _ :: r, _ :: r' => keepL r r'
  | .hp _ :: r, [] => keepL r []
  | [], _ => True
theorem keepL_get : ∀ {s s' : List Ch}, keepL s s' → ∀ i b cs T, sget s i = some (.box b cs T) → ∃ cs' T', sget s' i = some (.box b cs' T')
  | .box _ _ _ :: _, .box _ _ _ :: _, h, 0, b, cs, T, e => by
    simp only [sget, Option.some.injEq, Ch.box.injEq] at e
    obtain ⟨rfl, _, _⟩ := e
    exact ⟨_, _, by simp only [sget]; rw [h.1]⟩
  | .box _ _ _ :: _, .box _ _ _ :: _, h, i + 1, b, cs, T, e => keepL_get h.2 i b cs T e
  | .box _ _ _ :: _, .hp _ :: _, h, _, _, _, _, _ => h.elim
  | .box _ _ _ :: _, [], h, _, _, _, _, _ => h.elim
  | .hp _ :: _, _ :: _, _, 0, b, cs, T, e => by simp [sget] at e
  | .hp _ :: r, _ :: r', h, i + 1, b, cs, T, e => keepL_get (s := r) (s' := r') h i b cs T e
  | .hp _ :: _, [], _, 0, b, cs, T, e => by simp [sget] at e
  | .hp _ :: r, [], h, i + 1, b, cs, T, e => by
    obtain ⟨_, _, h'⟩ := keepL_get (s := r) (s' := []) h i b cs T e
    simp [sget] at h'
  | [], _, _, _, _, _, _, e => by simp [sget] at e
theorem keepL_keep {s s' : List Ch} (h : keepL s s') : Keep s s' := fun tv v e => by
  cases tv with
  | v x => exact e
  | bx i off =>
    simp only [TV.val] at e ⊢
    cases hs : sget s i with
    | none => simp [hs] at e
    | some c =>
      cases c with
      | hp _ => simp [hs] at e
      | box b cs T => obtain ⟨cs', T', h'⟩ := keepL_get h i b cs T hs; simp only [hs] at e; simp only [h']; exact e
  | bs i n =>
    simp only [TV.val] at e ⊢
    cases hs : sget s i with
    | none => simp [hs] at e
    | some c =>
      cases c with
      | hp _ => simp [hs] at e
      | box b cs T => obtain ⟨cs', T', h'⟩ := keepL_get h i b cs T hs; simp only [hs] at e; simp only [h']; exact e
theorem enterF {X : Ctx} (hX : X.Good) {f : Nat} {fn : Func} {c : Code} {args : List Value} {s : List Ch} {q : TV → List Ch → Prop} (rs : List ResultVar)
    (hf : X.P.funcs[f]? = some fn) (hb : fn.body = some c) (hn : (fn.name == "runtime.NumGoroutine") = false) (hr : fn.results = rs.toArray) (hm : fn.ntmps = X.n) (hl : Nat.ble args.length X.n = true)
    (hwp : WP X c (fun e t s' => match e with
      | .exit _ => False
      | _ => resk X s' t rs fun v => keepL s s' ∧ q (.v v) s') (iniT 0 args) s) : NeedF X.P s f args q := by
  have hl := Nat.le_of_ble_eq_true hl
  refine ⟨fun w0 w hok0 => ⟨fun w => ?_, calls_of_wp hf hb ?_⟩⟩
  · have hn' : ¬ fn.name = "runtime.NumGoroutine" := by simpa using hn
    simp [callFunc, hf, hn', hb]
  · refine wp_mono (WP_sound hX c _ _ _ _ w hwp ⟨by simp [hm]; omega, rfl, fun i tv hi => ?_⟩ hok0) fun e a w' hq => ?_
    · obtain ⟨v, rfl, _, h2⟩ := aget_iniT args 0 i tv hi
      refine ⟨v, rfl, ?_⟩
      have : i < args.length := (List.getElem?_eq_some_iff.1 (by simpa using h2)).1
      rw [Array.getElem?_append_left (by simpa using this)]
      simpa using h2
    · have fin : ∀ t s', Fr X.n t s' a → Ok w0 s' w' → (resk X s' t rs fun v => keepL s s' ∧ q (.v v) s') →
          a.defers = [] ∧ ∃ v, (results fn a.tmps).run X.P w' = .ok v w' ∧ ∃ v1 s1, Ending.returned v = .returned v1 ∧ Ok w0 s1 w' ∧ Keep s s1 ∧ q (.v v1) s1 := by
        intro t s' hf' hok hk
        obtain ⟨v, h1, h2, h3⟩ := resk_ok hX hf'.w hok.mem hk hr
        exact ⟨hf'.2.1, v, h1, v, s', rfl, hok, keepL_keep h2, h3⟩
      cases e with
      | normal => obtain ⟨t, s, h1, h2, h3⟩ := hq; exact fin t s h1 h2 h3
      | ret => obtain ⟨t, s, h1, h2, h3⟩ := hq; exact fin t s h1 h2 h3
      | exit i => obtain ⟨t, s, h1, h2, h3⟩ := hq; exact h3.elim
      | goto l => exact hq.elim
      | panic c => exact hq.elim
      | outgrown => exact hq.elim
end Go.Dw
namespace Go.Proofs.YtoholjdojdmbkaaGreatDoor
open Go Go.RowKit Go.Dw
def unpN (n : Nat) : Bool := decide (n < 32) || decide (126 < n)
def unpB (c : UInt8) : Bool := unpN c.toNat
theorem idx_unp (s : Byts) : ∀ f pos, s.length ≤ f + pos → (0 ≤ Lib.idxFuncFrom unpN true (bs s) f pos ↔ (s.drop pos).any unpB = true)
  | 0, pos, h => by
    rw [List.drop_eq_nil_of_le (by omega)]
    show (0 : Int) ≤ -1 ↔ false = true
    exact ⟨fun g => by omega, fun g => by cases g⟩
  | f + 1, pos, h => by
    have hz := bs_size s
    unfold Lib.idxFuncFrom
    by_cases hp : pos < s.length
    · have hp' : pos < (bs s).size := by rw [hz]; exact hp
      have hg : (bs s)[pos]'hp' = s[pos] := rfl
      rw [if_pos hp', List.drop_eq_getElem_cons hp, List.any_cons]
      by_cases ha : s[pos].toNat < 128
      · rw [decode_ascii (bs s) pos hp' (by rw [hg]; exact ha), hg]
        dsimp only
        by_cases hb : unpN s[pos].toNat = true
        · rw [if_pos hb, show unpB s[pos] = true from hb]
          exact ⟨fun _ => rfl, fun _ => by omega⟩
        · rw [if_neg hb, show unpB s[pos] = false from by unfold unpB; simpa using hb, Bool.false_or]
          exact idx_unp s f (pos + 1) (by omega)
      · obtain ⟨h1, _⟩ := decode_high (bs s) pos hp' (by rw [hg]; omega)
        have h2 : unpN (Utf8.decode (bs s) pos).1 = true := by unfold unpN; rw [decide_eq_true (show 126 < (Utf8.decode (bs s) pos).1 by omega), Bool.or_true]
        obtain ⟨c, hc⟩ : ∃ c : UInt8, c = s[pos]'hp := ⟨_, rfl⟩
        have hc2 : ¬ c.toNat < 128 := by rw [hc]; exact ha
        have h3 : unpB c = true := by unfold unpB unpN; rw [decide_eq_true (show 126 < c.toNat by omega), Bool.or_true]
        rw [if_pos h2, ← hc, h3]
        exact ⟨fun _ => rfl, fun _ => by omega⟩
    · rw [if_neg (by rw [hz]; exact hp), List.drop_eq_nil_of_le (by omega)]
      exact ⟨fun g => by omega, fun g => by cases g⟩
theorem contains_unp (s : Byts) : decide (0 ≤ Lib.idxFunc unpN true (bs s)) = s.any unpB := by
  have := idx_unp s (bs s).size 0 (by rw [bs_size]; omega)
  rw [List.drop_zero] at this
  unfold Lib.idxFunc
  rw [Bool.eq_iff_iff, decide_eq_true_eq]
  exact this
end Go.Proofs.YtoholjdojdmbkaaGreatDoor
namespace Go.Proofs.YtoholjdojdmbkaaGreatDoor
open Go Go.Shelf Go.RowKit Go.Dw Go.Lib
theorem unp_at (w : World) : PredAt Tryz.prog 63 #[] encR unpN w := fun W r _ => by
  unfold FnGives
  by_cases h1 : r < 32 <;> by_cases h2 : 126 < r
  all_goals
    have z1 : (r : Int) < 32 ↔ r < 32 := by omega
    have z2 : (r : Int) > 126 ↔ 126 < r := by omega
    go_enter Tryz.func63, Tryz.ntmps63
    go_wp2
    all_goals first | (exfalso; omega) | (go_ret; exact ⟨by simp [unpN, h1, h2], 0, rfl⟩)
theorem containsUnp_spec (s : Byts) (w : World) : CallsE Tryz.prog 62 #[.string (bs s), .func (.func 63) #[] #[]] w (RetV w (.bool (s.any unpB))) := by
  have hcon := Any.strings_ContainsFunc_grows Tryz.lCf 63 #[] (enters_of Tryz.func63 (by kernel_rfl) rfl) unpN (bs s) w (unp_at w).runes.grows
  change Calls Tryz.prog 62 _ _ _ at hcon
  refine ⟨enters_of (args := #[.string (bs s), .func (.func 63) #[] #[]]) Tryz.func62 (by kernel_rfl) rfl, hcon.mono ?_⟩
  rintro e w' ⟨rfl, hb⟩
  rw [contains_unp]
  exact RetV.ofBelow rfl hb
end Go.Proofs.YtoholjdojdmbkaaGreatDoor
namespace Go.Proofs.YtoholjdojdmbkaaGreatDoor
open Go
theorem onDisable (w : World) : (callFunc 198 #[]).run Tryz.prog w = .ok (.value (.tuple #[])) w := run_call_mark0 Tryz.func198 (by kernel_rfl) (by kernel_rfl) (by kernel_rfl) .disable (by kernel_rfl) w
theorem onEnable (w : World) : (callFunc 200 #[]).run Tryz.prog w = .ok (.value (.tuple #[])) w := run_call_mark0 Tryz.func200 (by kernel_rfl) (by kernel_rfl) (by kernel_rfl) .enable (by kernel_rfl) w
theorem onAcquire (a : Addr) (w : World) : (callFunc 201 #[.pointer (some a)]).run Tryz.prog w = .ok (.value (.tuple #[])) w := run_call_marked Tryz.func201 (by kernel_rfl) (by kernel_rfl) (by kernel_rfl) .acquire (by kernel_rfl) a w
theorem onRelease (a : Addr) (w : World) : (callFunc 203 #[.pointer (some a)]).run Tryz.prog w = .ok (.value (.tuple #[])) w := run_call_marked Tryz.func203 (by kernel_rfl) (by kernel_rfl) (by kernel_rfl) .releaseMerge (by kernel_rfl) a w
theorem onStore (a : Addr) (x : Value) (u : FrameMode) (w : World) (hc : w.cell? a = some x) (hz : w.frozen? a = false) :
    CallsD Tryz.prog 165 #[.pointer (some a), .bool true] u w fun e u' w' => u' = u ∧ (e = .returned (.tuple #[]) ∧ w' = w.drew.setCell a (.int .u32 1)) := by
  have hc' : w.drew.cell? a = some x := by go_simp
  have hz' : w.drew.frozen? a = false := by go_simp
  have hst := run_call_store (P := Tryz.prog) Tryz.func183 (by kernel_rfl) (by kernel_rfl) (by kernel_rfl) (by kernel_rfl) (k := .u32) (y := 1) hc' hz'
  go_enter_d Tryz.func165, Tryz.ntmps165
  go_wp2
  go_region_calls
  all_goals (go_end0; exact ⟨rfl, rfl⟩)
set_option maxRecDepth 100000 in
set_option maxHeartbeats 1600000 in
theorem onUnlock (a : Addr) (u : FrameMode) (w : World) (hc : w.cell? a = some (.int .i32 1)) (hz : w.frozen? a = false) :
    CallsD Tryz.prog 164 #[.pointer (some a)] u w fun e u' w' => u' = u ∧ (e = .returned (.tuple #[]) ∧ w' = w.setCell a (.int .i32 0)) := by
  have hd := onDisable
  have he := onEnable
  have hr := onRelease
  have hadd := run_call_add (P := Tryz.prog) Tryz.func204 (by kernel_rfl) (by kernel_rfl) (by kernel_rfl) .i32 (by kernel_rfl) (y := -1) (s := 0) hc hz (by simp [go_sem]; rfl)
  have hcv := run_convert_to_unsafe (P := Tryz.prog) (src := 264) (dst := 192) Tryz.underlying264 Tryz.underlying192 (by kernel_rfl) hc
  go_enter_d Tryz.func164, Tryz.ntmps164
  go_wp2
  go_end0
  go_wp2
  go_end0
  exact ⟨rfl, rfl⟩
set_option maxRecDepth 100000 in
set_option maxHeartbeats 1600000 in
theorem onLock (a : Addr) (w : World) (hc : w.cell? a = some (.int .i32 0)) (hz : w.frozen? a = false) :
    Calls Tryz.prog 163 #[.pointer (some a)] w fun e w' => e = .returned (.tuple #[]) ∧ w' = w.setCell a (.int .i32 1) := by
  have hd := onDisable
  have he := onEnable
  have ha := onAcquire
  have hcas := run_call_cas_hit (P := Tryz.prog) Tryz.func199 (by kernel_rfl) (by kernel_rfl) (by kernel_rfl) .i32 (by kernel_rfl) (y := 1) hc hz
  have hc' : (w.setCell a (.int .i32 1)).cell? a = some (.int .i32 1) := World.cell?_setCell_same w a _ hc
  have hcv := run_convert_to_unsafe (P := Tryz.prog) (src := 264) (dst := 192) Tryz.underlying264 Tryz.underlying192 (by kernel_rfl) hc'
  go_enter Tryz.func163, Tryz.ntmps163
  go_wp2
  first | go_end0 | (simp only [Exit.inBlock, Exit.then]; refine bodyPost_ret (results_none rfl _ _ _) rfl ?_) | refine bodyPost_ret (results_none rfl _ _ _) rfl ?_
  go_wp2
  go_end0
  exact ⟨rfl, rfl⟩
end Go.Proofs.YtoholjdojdmbkaaGreatDoor
namespace Go.Proofs.YtoholjdojdmbkaaGreatDoor
open Go Go.RowKit Go.Dw
def OnceC (b : Nat) (d m : Int) (w : World) : Prop := w.cell? ⟨b, 0, none⟩ = some (.int .u32 d) ∧ w.cell? ⟨b, 1, none⟩ = some (.int .i32 m) ∧ w.frozen? ⟨b, 0, none⟩ = false ∧ w.frozen? ⟨b, 1, none⟩ = false
set_option maxRecDepth 100000 in
set_option maxHeartbeats 1600000 in
theorem onSlow (b : Nat) (w : World) (h0 : OnceC b 0 0 w) (R : World → Prop) (hK : Calls Tryz.prog 110 #[.pointer (some ⟨b, 0, none⟩)] (w.setCell ⟨b, 1, none⟩ (.int .i32 1)) fun e w2 => e = .returned (.tuple #[]) ∧ R w2 ∧ OnceC b 0 1 w2) :
    Calls Tryz.prog 137 #[.pointer (some ⟨b, 0, none⟩), .func (.func 110) #[.pointer (some ⟨b, 0, none⟩)] #[]] w fun e w' => e = .returned (.tuple #[]) ∧ ∃ w2, R w2 ∧ w' = (w2.drew.setCell ⟨b, 0, none⟩ (.int .u32 1)).setCell ⟨b, 1, none⟩ (.int .i32 0) := by
  obtain ⟨h0, h1, f0, f1⟩ := h0
  have hl := run_call_load (P := Tryz.prog) Tryz.func162 (by kernel_rfl) (by kernel_rfl) (by kernel_rfl) .u32 (by kernel_rfl) (w := w.setCell ⟨b, 1, none⟩ (.int .i32 1)) (a := ⟨b, 0, none⟩) (x := 0) ((World.cell?_setCell_other _ ⟨b, 1, none⟩ ⟨b, 0, none⟩ _ (by simp)).trans h0)
  have hnot : ∀ (x : Bool) (w : World), (Op.unary .not (.bool x)).run Tryz.prog w = .ok (.bool (!x)) w := fun _ _ => rfl
  go_enter_defers Tryz.func137, Tryz.ntmps137
  go_wp2_with (first | (go_at_call 163; refine (onLock ⟨b, 1, none⟩ _ (by go_simp) (by go_simp)).mono ?_; rintro e w' ⟨rfl, rfl⟩) | (go_at_call 110; refine hK.mono ?_; rintro e w2 ⟨rfl, hR, hc0, hc1, hf0, hf1⟩) | (go_at_call 136; go_in))
  refine leaves_cons (f := 165) (args := #[.pointer (some ⟨b, 0, none⟩), .bool true]) (by simp) (by simp [go_sem]) ?_
  refine (onStore ⟨b, 0, none⟩ (.int .u32 0) .returning _ hc0 hf0).mono ?_
  rintro e u' w'' ⟨rfl, rfl, rfl⟩
  refine leaves_cons (f := 164) (args := #[.pointer (some ⟨b, 1, none⟩)]) (by simp [settle]) (by simp [go_sem]) ?_
  refine (onUnlock ⟨b, 1, none⟩ _ _ ?_ (by simp [hf1])).mono ?_
  · refine (World.cell?_setCell_other _ ⟨b, 0, none⟩ ⟨b, 1, none⟩ _ (by simp)).trans ?_
    rw [World.cell?_drew]
    exact hc1
  rintro e u' w'' ⟨rfl, rfl, rfl⟩
  simp [Leaves, settle, results, Tryz.results137]
  exact ⟨w2, hR, rfl⟩
set_option maxRecDepth 100000 in
set_option maxHeartbeats 1600000 in
theorem onDo (b : Nat) (w : World) (h0 : OnceC b 0 0 w) (R : World → Prop) (hK : Calls Tryz.prog 110 #[.pointer (some ⟨b, 0, none⟩)] (w.setCell ⟨b, 1, none⟩ (.int .i32 1)) fun e w2 => e = .returned (.tuple #[]) ∧ R w2 ∧ OnceC b 0 1 w2) :
    Calls Tryz.prog 109 #[.pointer (some ⟨b, 0, none⟩), .func (.func 110) #[.pointer (some ⟨b, 0, none⟩)] #[]] w fun e w' => e = .returned (.tuple #[]) ∧ ∃ w2, R w2 ∧ w' = (w2.drew.setCell ⟨b, 0, none⟩ (.int .u32 1)).setCell ⟨b, 1, none⟩ (.int .i32 0) := by
  have hl := run_call_load (P := Tryz.prog) Tryz.func162 (by kernel_rfl) (by kernel_rfl) (by kernel_rfl) .u32 (by kernel_rfl) h0.1
  have hnot : ∀ (x : Bool) (w : World), (Op.unary .not (.bool x)).run Tryz.prog w = .ok (.bool (!x)) w := fun _ _ => rfl
  go_enter Tryz.func109, Tryz.ntmps109
  go_wp2_with (first | (go_at_call 137; refine (onSlow b _ h0 R hK).mono ?_; rintro e w' ⟨rfl, w2, hR, rfl⟩) | (go_at_call 136; go_in))
  go_end0
  exact ⟨rfl, w2, hR, rfl⟩
theorem onceC_box {w0 w : World} {s : List Ch} (hok : Ok w0 s w) {i b T : Nat} {d m : Int} {rest : List Value} (hi : sget s i = some (.box b (.int .u32 d :: .int .i32 m :: rest) T)) : OnceC b d m w := by
  have hb : w.heap[b]? = some (.cells (.int .u32 d :: .int .i32 m :: rest).toArray T (0, 0)) := hok.mem i _ hi b _ (Hp.one_self b _)
  refine ⟨?_, ?_, ?_, ?_⟩ <;> simp [World.cell?, World.frozen?, hb]
/-- Do of a Once that is not done, with a bound method of the box that the Once begins -/
theorem callDo {s : List Ch} {i b T : Nat} {rest : List Value} (hi : sget s i = some (.box b (.int .u32 0 :: .int .i32 0 :: rest) T)) {q : TV → List Ch → Prop}
    (hK : NeedF Tryz.prog (sset s i (.box b (.int .u32 0 :: .int .i32 1 :: rest) T)) 110 [.pointer (some ⟨b, 0, none⟩)] fun tv s' => tv = .v (.tuple #[]) ∧ ∃ rest', sget s' i = some (.box b (.int .u32 0 :: .int .i32 1 :: rest') T) ∧ q (.v (.tuple #[])) (sset s' i (.box b (.int .u32 1 :: .int .i32 0 :: rest') T))) :
    NeedF Tryz.prog s 109 [.pointer (some ⟨b, 0, none⟩), .func (.func 110) #[.pointer (some ⟨b, 0, none⟩)] #[]] q := by
  obtain ⟨hK⟩ := hK
  refine ⟨fun w0 w hok => ⟨enters_of Tryz.func109 (by kernel_rfl) rfl _, ?_⟩⟩
  have hok1 := hok.boxSet hi 1 (.int .i32 1)
  have hc := (hK w0 _ hok1).2
  refine (onDo b w (onceC_box hok hi) (fun w2 => ∃ s' rest', Ok w0 s' w2 ∧ Keep (sset s i (.box b (.int .u32 0 :: .int .i32 1 :: rest) T)) s' ∧ sget s' i = some (.box b (.int .u32 0 :: .int .i32 1 :: rest') T) ∧ q (.v (.tuple #[])) (sset s' i (.box b (.int .u32 1 :: .int .i32 0 :: rest') T))) (hc.mono ?_)).mono ?_
  · rintro e w2 ⟨v, s', rfl, h1, h2, h3, rest', h4, h5⟩
    cases h3
    exact ⟨rfl, ⟨s', rest', h1, h2, h4, h5⟩, onceC_box h1 h4⟩
  · rintro e w' ⟨rfl, w2, ⟨s', rest', h1, h2, h4, h5⟩, rfl⟩
    have g1 := h1.drew.boxSet h4 0 (.int .u32 1)
    have g2 := g1.boxSet (i := i) (by rw [sget_put h4, if_pos rfl]) 1 (.int .i32 0)
    have e : sset (sset s' i (.box b (.int .u32 1 :: .int .i32 1 :: rest') T)) i (.box b (.int .u32 1 :: .int .i32 0 :: rest') T) = sset s' i (.box b (.int .u32 1 :: .int .i32 0 :: rest') T) := by simp only [sset_eq, List.set_set]
    refine ⟨_, _, rfl, e ▸ g2, ?_, h5⟩
    exact ((Keep.set hi (fun b' cs T e => by cases e; exact ⟨_, _, rfl⟩)).trans h2).trans (Keep.set h4 (fun b' cs T e => by cases e; exact ⟨_, _, rfl⟩))
end Go.Proofs.YtoholjdojdmbkaaGreatDoor
namespace Go.Proofs.YtoholjdojdmbkaaGreatDoor
def spN (l : Byts) : Nat := l.count 92 + l.count 34
theorem spN_cons (c : UInt8) (l : Byts) : spN (c :: l) = spN l + if c = 34 ∨ c = 92 then 1 else 0 := by
  unfold spN
  rw [List.count_cons, List.count_cons]
  by_cases h1 : c = 34
  · subst h1; rw [if_neg (by decide), if_pos (by decide), if_pos (.inl rfl)]
    omega
  · by_cases h2 : c = 92
    · subst h2; rw [if_pos (by decide), if_neg (by decide), if_pos (.inr rfl)]
      omega
    · rw [if_neg (by simpa using h2), if_neg (by simpa using h1), if_neg (by simp [h1, h2])]
      omega
theorem esc_spN (l : Byts) : (escF l).length = l.length + spN l := by
  induction l with
  | nil => rfl
  | cons c l ih =>
    rw [esc_cons, List.length_append, ih, spN_cons, List.length_cons]
    unfold esc1
    by_cases h : c = 34 ∨ c = 92
    · rw [if_pos h, if_pos h]; simp; omega
    · rw [if_neg h, if_neg h]; simp; omega
theorem esc_same {l : Byts} (h : spN l = 0) : escF l = l := by
  induction l with
  | nil => rfl
  | cons c l ih =>
    rw [spN_cons] at h
    rw [esc_cons, ih (by omega)]
    unfold esc1
    by_cases hc : c = 34 ∨ c = 92
    · rw [if_pos hc] at h; omega
    · rw [if_neg hc]; rfl
theorem esc_snoc (l : Byts) (c : UInt8) : escF (l ++ [c]) = escF l ++ esc1 c := by
  unfold escF; rw [List.flatMap_append]; simp
theorem takeB_snoc {l : Byts} {k : Nat} (h : k < l.length) : l.take (k + 1) = l.take k ++ [l.getD k 0] := by
  rw [List.take_add_one, List.getElem?_eq_getElem h, List.getD_eq_getElem?_getD, List.getElem?_eq_getElem h]; rfl
theorem esc_take {l : Byts} {k : Nat} (h : k < l.length) : escF (l.take (k + 1)) = escF (l.take k) ++ esc1 (l.getD k 0) := by
  rw [takeB_snoc h, esc_snoc]
theorem spN_append (a b : Byts) : spN (a ++ b) = spN a + spN b := by unfold spN; rw [List.count_append, List.count_append]; omega
theorem spN_take {l : Byts} {k : Nat} (h : k < l.length) : spN (l.take (k + 1)) = spN (l.take k) + if l.getD k 0 = 34 ∨ l.getD k 0 = 92 then 1 else 0 := by
  rw [takeB_snoc h, spN_append, spN_cons]; show _ + (0 + _) = _; omega
theorem spN_le (l : Byts) : spN l ≤ l.length := by
  induction l with
  | nil => exact Nat.le_refl _
  | cons c l ih => rw [spN_cons, List.length_cons]; split <;> omega
theorem esc_take_le (l : Byts) (k : Nat) : (escF (l.take k)).length ≤ (escF l).length := by
  conv => rhs; rw [← List.take_append_drop k l]
  unfold escF; rw [List.flatMap_append, List.length_append]; omega
/-- the buffer behind k bytes -/
def bufE (l : Byts) (k : Nat) : Byts := escF (l.take k) ++ List.replicate ((escF l).length - (escF (l.take k)).length) 0
theorem bufE_len (l : Byts) (k : Nat) : (bufE l k).length = (escF l).length := by
  have := esc_take_le l k
  unfold bufE; rw [List.length_append, List.length_replicate]; omega
theorem bufE_zero (l : Byts) : bufE l 0 = List.replicate (escF l).length 0 := by unfold bufE; rw [List.take_zero]; rfl
theorem bufE_end (l : Byts) : bufE l l.length = escF l := by unfold bufE; rw [List.take_length, Nat.sub_self]; simp
theorem rep_put (a m : Byts) (n : Nat) : (a ++ List.replicate n (0 : UInt8)).take a.length ++ m ++ (a ++ List.replicate n (0 : UInt8)).drop (a.length + m.length) = a ++ m ++ List.replicate (n - m.length) 0 := by
  rw [List.take_left', List.drop_append, List.drop_of_length_le (by omega), List.nil_append, Nat.add_sub_cancel_left, List.drop_replicate]
  rfl
theorem bufE_put {l : Byts} {k : Nat} (h : k < l.length) : (bufE l k).take (escF (l.take k)).length ++ esc1 (l.getD k 0) ++ (bufE l k).drop ((escF (l.take k)).length + (esc1 (l.getD k 0)).length) = bufE l (k + 1) := by
  have h1 := esc_take_le l (k + 1)
  rw [esc_take h, List.length_append] at h1
  unfold bufE
  rw [rep_put, esc_take h, List.length_append]
  congr 2
  omega
theorem bufE_set {l : Byts} {k : Nat} (h : k < l.length) (hc : ¬ (l.getD k 0 = 34 ∨ l.getD k 0 = 92)) : (bufE l k).set (escF (l.take k)).length (l.getD k 0) = bufE l (k + 1) := by
  have := bufE_put h
  have e : esc1 (l.getD k 0) = [l.getD k 0] := by unfold esc1; rw [if_neg hc]
  have h1 := esc_take_le l (k + 1)
  rw [esc_take h, List.length_append] at h1
  rw [e] at this h1
  rw [← this, List.set_eq_take_append_cons_drop, if_pos (by rw [bufE_len]; simp at h1; omega)]
  simp
theorem esc1_len {c : UInt8} : (esc1 c).length = if c = 34 ∨ c = 92 then 2 else 1 := by unfold esc1; split <;> rfl
end Go.Proofs.YtoholjdojdmbkaaGreatDoor
namespace Go.Proofs.YtoholjdojdmbkaaGreatDoor
open Go Go.RowKit Go.Dw
def rpL : List Byts := [[34], [92, 34], [92], [92, 92]]
def nilS : Value := .slice none 0 0
def repC (s34 s92 tr : Value) : List Value := List.replicate 34 nilS ++ (s34 :: (List.replicate 57 nilS ++ (s92 :: (List.replicate 163 nilS ++ [tr]))))
/-- a slice whose two bytes are a backslash and x -/
def TwoB (h : Hp) (x : UInt8) (v : Value) : Prop := ∃ b c, v = .slice (some ⟨b, 0, none⟩) 2 c ∧ h.cell? ⟨b, 0, none⟩ = some (.int .u8 92) ∧ h.cell? ⟨b, 1, none⟩ = some (.int .u8 x.toNat)
theorem TwoB.mono {h k : Hp} {x : UInt8} {v : Value} (hT : TwoB h x v) (l : h.le k) : TwoB k x v := by
  obtain ⟨b, c, h1, h2, h3⟩ := hT
  exact ⟨b, c, h1, l.cell h2, l.cell h3⟩
theorem qStrBx {s : List Ch} {i b T c : Nat} {x : UInt8} (hi : sget s i = some (.box b [.int .u8 x.toNat] T)) {q : TV → Prop} (h : q (.v (.string (bs [x])))) : NeedQ Tryz.prog s (convert 23 9 (.slice (some ⟨b, 0, none⟩) 1 c)) q := by
  refine ⟨_, fun w hm => ?_, h⟩
  rw [run_convert_bytes_arg w 23 5 Tryz.underlying23 Tryz.underlying5 b 0 1 c [(x.toNat : Int)] rfl (fun j hj => ?_) 9 Tryz.underlying9]
  · congr 2
    unfold strOfNums bs
    congr 2
    exact congrArg (fun y => [y]) (UInt8.toNat_inj.1 (by simp))
  · have : j = 0 := by omega
    subst this
    have hb : w.heap[b]? = some (.cells #[.int .u8 x.toNat] T (0, 0)) := hm i _ hi b _ (Hp.one_self b _)
    simp [World.cell?, hb]
structure BldG where
  tr : Dw.Os
  s34 : Value
  s92 : Value
  hB : Hp
def BldI (j : Nat) (g : BldG) : Prop := match j with
  | 0 => g.s34 = nilS ∧ g.s92 = nilS ∧ OwnO fS 9 1 g.tr []
  | 1 => g.s34 = nilS ∧ TwoB g.hB 92 g.s92 ∧ OwnO fS 9 1 g.tr [[92]]
  | 2 => TwoB g.hB 34 g.s34 ∧ TwoB g.hB 92 g.s92 ∧ OwnO fS 9 1 g.tr [[92], [34]]
  | _ => False
set_option maxRecDepth 100000 in
set_option maxHeartbeats 4000000 in
theorem build_spec {b : Nat} {a : Option Addr} {n c : Nat} (w : World) (hc : (Hp.whole w).cell? ⟨b, 4, none⟩ = some (.slice a n c)) (hL : Sl (encF fS) 1 (Hp.whole w) a n c rpL) :
    CallsE Tryz.prog 138 #[.pointer (some ⟨b, 0, none⟩)] w (Ret w fun v cs => ∃ bq g, v = .iface 215 (.pointer (some ⟨bq, 0, none⟩)) ∧ cs = [.hp g.hB, .box bq (repC g.s34 g.s92 g.tr.v) 214, .hp g.tr.h] ∧ BldI 2 g) := by
  have hn := hL.len
  have hn : n = 4 := hn
  subst hn
  refine enterY (X := cx 132) (cxg _) (args := [.pointer (some ⟨b, 0, none⟩)]) [.tmp 2] Tryz.func138 rfl rfl rfl rfl rfl ?_
  refine ld1 (cxg _) (i := 0) rfl hc rfl ?_
  refine NeedL.mk Nat (fun k => [(0, .v (.pointer (some ⟨b, 0, none⟩))), (3, .v (.slice a 4 c)), (4, .v (.bool (decide (k = 0)))), (5, .v (.int .i64 (2 * k : Nat)))]) (fun _ => [.hp (Hp.whole w)]) (fun k => k ≤ 2) (fun k => 2 - k) 0 (by decide) (Ent.mk (fun _ _ h => h) rfl rfl) ?_
  intro k hk
  match k, hk with
  | 0, _ =>
    refine idx (cxg _) (e := 9) rfl hL 0 rfl (by decide) (fun b o cs hcs hR hcell => ?_)
    subst hR
    refine ld1 (cxg _) (i := 0) rfl (hcell 0 _ rfl) rfl ?_
    refine nw (by decide) (by decide) ?_
    refine idx (cxg _) (e := 9) rfl hL 1 rfl (by decide) (fun b o cs hcs hR hcell => ?_)
    subst hR
    refine ld1 (cxg _) (i := 0) rfl (hcell 0 _ rfl) rfl ?_
    refine nw (by decide) (by decide) ?_
    exact ⟨1, by decide, by decide, Ent.mk (fun _ _ h => h) rfl rfl⟩
  | 1, _ =>
    refine idx (cxg _) (e := 9) rfl hL 2 rfl (by decide) (fun b o cs hcs hR hcell => ?_)
    subst hR
    refine ld1 (cxg _) (i := 0) rfl (hcell 0 _ rfl) rfl ?_
    refine nw (by decide) (by decide) ?_
    refine idx (cxg _) (e := 9) rfl hL 3 rfl (by decide) (fun b o cs hcs hR hcell => ?_)
    subst hR
    refine ld1 (cxg _) (i := 0) rfl (hcell 0 _ rfl) rfl ?_
    refine nw (by decide) (by decide) ?_
    exact ⟨2, by decide, by decide, Ent.mk (fun _ _ h => h) rfl rfl⟩
  | 2, _ =>
    refine qQuoE 4 2 2 rfl rfl (by decide) (by decide) (by decide) ?_
    refine mkC (f := fS) (cxg _) (e := 9) rfl 2 rfl rfl (by decide) (by decide) fun tr htr => ?_
    intro bq
    refine nw (by decide) (by decide) ?_
    refine NeedL.mk (Nat × BldG) (fun g => [(0, .v (.pointer (some ⟨b, 0, none⟩))), (3, .v (.slice a 4 c)), (11, .bx 2 0), (12, .v (.int .i64 (2 - 2 * (g.1 : Nat) : Int)))]) (fun g => [.hp (Hp.whole w), .hp g.2.hB, .box bq (repC g.2.s34 g.2.s92 g.2.tr.v) 214, .hp g.2.tr.h]) (fun g => g.1 ≤ 2 ∧ BldI g.1 g.2) (fun g => 2 - g.1) (0, ⟨tr, nilS, nilS, Hp.emp⟩) ⟨Nat.zero_le _, rfl, rfl, htr⟩ (Ent.mk (fun _ _ h => Ok.pick [0, 3, 2, 1] rfl rfl h.emp) rfl rfl) ?_
    rintro ⟨j, tr, s34, s92, hB⟩ ⟨hj, hI⟩
    dsimp only at *
    match j, hj with
    | 0, _ =>
      obtain ⟨rfl, rfl, htr⟩ := hI
      refine idx (cxg _) (e := 9) rfl hL 2 rfl (by decide) (fun b o cs hcs hR hcell => ?_)
      subst hR
      refine ld1 (cxg _) (i := 0) rfl (hcell 0 _ rfl) rfl ?_
      refine qIdxL (cxg _) rfl rfl 0 rfl (by decide) ?_
      refine nw (by decide) (by decide) ?_
      refine idx (cxg _) (e := 9) rfl hL 3 rfl (by decide) (fun b o cs hcs hR hcell => ?_)
      subst hR
      refine ld1 (cxg _) (i := 0) rfl (hcell 0 _ rfl) rfl ?_
      refine qNilEq rfl ?_
      intro b121
      refine qStrBx (i := 4) (x := 92) rfl ?_
      intro b123
      refine appO (f := fS) (cxg _) (e := 9) rfl (i := 3) rfl htr (j := 5) [92] rfl rfl rfl rfl (by decide) (fun tr' htr' => ?_)
      refine cvtE (cxg _) rfl rfl rfl rfl fun bn cn hn2 hcn hdj => ?_
      have hTw : TwoB hn2 92 (.slice (some ⟨bn, 0, none⟩) 2 cn) := ⟨bn, cn, rfl, hcn 0 (by decide), hcn 1 (by decide)⟩
      have hd : hB.dj hn2 := hdj 1 (.hp hB) rfl
      refine nw (by decide) (by decide) ?_
      exact ⟨(1, ⟨tr', nilS, .slice (some ⟨bn, 0, none⟩) 2 cn, hB.join hn2⟩), ⟨by dsimp only; omega, ⟨rfl, hTw.mono (Hp.le_join_r hd), htr'⟩⟩, by dsimp only; omega, Ent.mk (fun _ _ h => Ok.join (c := .hp (Hp.whole w)) (d := .hp hB) (e := .hp hn2) (s := [.box bq (repC nilS (.slice (some ⟨bn, 0, none⟩) 2 cn) tr'.v) 214, .hp tr'.h]) (Ok.pick [0, 1, 6, 2, 3] rfl rfl h)) rfl rfl⟩
    | 1, _ =>
      obtain ⟨rfl, hT92, htr⟩ := hI
      refine idx (cxg _) (e := 9) rfl hL 0 rfl (by decide) (fun b o cs hcs hR hcell => ?_)
      subst hR
      refine ld1 (cxg _) (i := 0) rfl (hcell 0 _ rfl) rfl ?_
      refine qIdxL (cxg _) rfl rfl 0 rfl (by decide) ?_
      refine nw (by decide) (by decide) ?_
      refine idx (cxg _) (e := 9) rfl hL 1 rfl (by decide) (fun b o cs hcs hR hcell => ?_)
      subst hR
      refine ld1 (cxg _) (i := 0) rfl (hcell 0 _ rfl) rfl ?_
      refine qNilEq rfl ?_
      intro b121
      refine qStrBx (i := 4) (x := 34) rfl ?_
      intro b123
      refine appO (f := fS) (cxg _) (e := 9) rfl (i := 3) rfl htr (j := 5) [34] rfl rfl rfl rfl (by decide) (fun tr' htr' => ?_)
      refine cvtE (cxg _) rfl rfl rfl rfl fun bn cn hn2 hcn hdj => ?_
      have hTw : TwoB hn2 34 (.slice (some ⟨bn, 0, none⟩) 2 cn) := ⟨bn, cn, rfl, hcn 0 (by decide), hcn 1 (by decide)⟩
      have hd : hB.dj hn2 := hdj 1 (.hp hB) rfl
      refine nw (by decide) (by decide) ?_
      exact ⟨(2, ⟨tr', .slice (some ⟨bn, 0, none⟩) 2 cn, s92, hB.join hn2⟩), ⟨by dsimp only; omega, ⟨hTw.mono (Hp.le_join_r hd), hT92.mono (Hp.le_join_l _ _), htr'⟩⟩, by dsimp only; omega, Ent.mk (fun _ _ h => Ok.join (c := .hp (Hp.whole w)) (d := .hp hB) (e := .hp hn2) (s := [.box bq (repC (.slice (some ⟨bn, 0, none⟩) 2 cn) s92 tr'.v) 214, .hp tr'.h]) (Ok.pick [0, 1, 6, 2, 3] rfl rfl h)) rfl rfl⟩
    | 2, _ =>
      refine ⟨_, fun w' _ => run_makeInterface (P := Tryz.prog) (w := w') 215 _ (by kernel_rfl), ?_⟩
      exact ⟨[.hp hB, .box bq (repC s34 s92 tr.v) 214, .hp tr.h], ⟨bq, ⟨tr, s34, s92, hB⟩, rfl, rfl, hI⟩, fun w' h => h⟩
end Go.Proofs.YtoholjdojdmbkaaGreatDoor
namespace Go.Proofs.YtoholjdojdmbkaaGreatDoor
open Go Go.Shelf Go.RowKit Go.Dw
theorem repC_get (s34 s92 tr : Value) (m : Nat) (hm : m < 256) : (repC s34 s92 tr)[m]? = some (if m = 34 then s34 else if m = 92 then s92 else nilS) := by
  unfold repC
  by_cases h1 : m < 34
  · rw [List.getElem?_append_left (by simpa using h1), List.getElem?_replicate, if_pos h1, if_neg (by omega), if_neg (by omega)]
  · rw [List.getElem?_append_right (by simp; omega), List.length_replicate]
    by_cases h2 : m = 34
    · subst h2; rfl
    · obtain ⟨k, hk⟩ : ∃ k, m - 34 = k + 1 := ⟨m - 35, by omega⟩
      rw [hk, List.getElem?_cons_succ, if_neg h2]
      by_cases h3 : k < 57
      · rw [List.getElem?_append_left (by simpa using h3), List.getElem?_replicate, if_pos h3, if_neg (by omega)]
      · rw [List.getElem?_append_right (by simp; omega), List.length_replicate]
        by_cases h4 : k = 57
        · subst h4; rw [if_pos (by omega)]; rfl
        · obtain ⟨j, hj⟩ : ∃ j, k - 57 = j + 1 := ⟨k - 58, by omega⟩
          rw [hj, List.getElem?_cons_succ, if_neg (by omega), List.getElem?_append_left (by rw [List.length_replicate]; omega), List.getElem?_replicate, if_pos (by omega)]
structure RpR (H : Hp) (bq : Nat) (g : BldG) : Prop where
  cell : ∀ m v, (repC g.s34 g.s92 g.tr.v)[m]? = some v → H.cell? ⟨bq, 0 + m, none⟩ = some v
  t34 : TwoB H 34 g.s34
  t92 : TwoB H 92 g.s92
  tr : Sl (encF fS) 1 H g.tr.a g.tr.n g.tr.c [[92], [34]]
theorem blt256 (c : UInt8) : Nat.blt c.toNat 256 = true := by
  have := c.toNat_lt
  simp [Nat.blt_eq]; omega
theorem RpR.hit {H : Hp} {bq : Nat} {g : BldG} (h : RpR H bq g) {c : UInt8} (hc : c = 34 ∨ c = 92) : ∃ b cap, H.cell? ⟨bq, 0 + 0 + c.toNat * 1, none⟩ = some (.slice (some ⟨b, 0, none⟩) 2 cap) ∧ H.cell? ⟨b, 0, none⟩ = some (.int .u8 92) ∧ H.cell? ⟨b, 1, none⟩ = some (.int .u8 c.toNat) := by
  rcases hc with rfl | rfl
  · obtain ⟨b, cap, h1, h2, h3⟩ := h.t34
    exact ⟨b, cap, by rw [← h1]; exact h.cell 34 _ rfl, h2, h3⟩
  · obtain ⟨b, cap, h1, h2, h3⟩ := h.t92
    exact ⟨b, cap, by rw [← h1]; exact h.cell 92 _ rfl, h2, h3⟩
theorem RpR.miss {H : Hp} {bq : Nat} {g : BldG} (h : RpR H bq g) {c : UInt8} (hc : ¬ (c = 34 ∨ c = 92)) : H.cell? ⟨bq, 0 + 0 + c.toNat * 1, none⟩ = some (.slice none 0 0) := by
  have h1 : c.toNat < 256 := c.toNat_lt
  have e := repC_get g.s34 g.s92 g.tr.v c.toNat h1
  have n1 : ¬ c.toNat = 34 := fun e => hc (.inl (UInt8.toNat_inj.1 e))
  have n2 : ¬ c.toNat = 92 := fun e => hc (.inr (UInt8.toNat_inj.1 e))
  rw [if_neg n1, if_neg n2] at e
  have := h.cell c.toNat _ e
  rw [Nat.mul_one]
  exact this
theorem qNilNe {T : Nat} {s : List Ch} {xo yo : Operand} {a : Option Addr} {n c : Nat} {q : TV → Prop} (hT : (elsz (cx 0) T).isSome = true) (h : q (.v (.bool (!a.isNone)))) :
    NeedQ Tryz.prog s (do eqGuard .neq T xo yo (.slice a n c) (.slice none 0 0); binOp .neq T (.slice a n c) (.slice none 0 0)) q := by
  obtain ⟨⟨e, te⟩, hx⟩ := Option.isSome_iff_exists.1 hT
  have hu := (elsz_spec (cxg 0) hx).1
  refine ⟨_, fun w _ => ?_, h⟩
  have hun : (underlying T).run Tryz.prog w = .ok (.slice e) w := by simp [underlying, show Tryz.prog.underlying T = _ from hu]
  have hg : (eqGuard .neq T xo yo (.slice a n c) (.slice none 0 0)).run Tryz.prog w = .ok () w := by simp [eqGuard]
  rw [Sem.run_bind, hg]
  simp only [Result.andThen_ok, binOp, Sem.run_bind]
  have : (Op.equal T (.slice a n c) (.slice none 0 0)).run Tryz.prog w = .ok a.isNone w := by
    unfold Op.equal Op.maxDepth
    rw [show (10000 : Nat) = 9999 + 1 from rfl]
    unfold Op.equalIn
    simp only [Sem.run_bind, hun, Result.andThen_ok]
    cases a <;> simp
  rw [this]
  simp
theorem count_spec (s : Byts) (c : UInt8) (w : World) : CallsE Tryz.prog 249 #[.string (bs s), .string (bs [c])] w (RetV w (.int .i64 (s.count c))) := by
  have hcon := Any.strings_Count_one Tryz.lCo (bs s) c w
  change Calls Tryz.prog 249 _ _ _ at hcon
  refine callsLib (enters_of Tryz.func249 (by kernel_rfl) rfl _) hcon ?_
  rintro e w' ⟨rfl, rfl⟩
  exact ⟨rfl, Below.refl _ _, Nat.le_refl _⟩
def ctP (s : Byts) : Nat → Nat
  | 0 => 0
  | 1 => s.count 92
  | _ => s.count 92 + s.count 34
theorem ctP_le (s : Byts) (k : Nat) : ctP s k ≤ s.length := by
  have h := spN_le s
  unfold spN at h
  unfold ctP
  split <;> omega
set_option maxRecDepth 100000 in
set_option maxHeartbeats 4000000 in
theorem bsrReplace_spec {bq : Nat} {g : BldG} (s : Byts) (hs : s.length < 1000000) (w : World) (hR : RpR (Hp.whole w) bq g) :
    CallsE Tryz.prog 247 #[.pointer (some ⟨bq, 0, none⟩), .string (bs s)] w (RetV w (.string (bs (escF s)))) := by
  have hz := bs_size s
  have hn := hR.tr.len
  have hn : g.tr.n = 2 := hn
  obtain ⟨⟨ta, tn, tc, th⟩, s34, s92, hB⟩ := g
  dsimp only at hn
  subst hn
  have htr : (Hp.whole w).cell? ⟨bq, 0 + 256, none⟩ = some (.slice ta 2 tc) := hR.cell 256 _ rfl
  have hel := esc_spN s
  have hsl := spN_le s
  refine enter (X := cx 122) (cxg _) (args := [.pointer (some ⟨bq, 0, none⟩), .string (bs s)]) [.tmp 4] Tryz.func247 rfl rfl rfl rfl rfl ?_
  refine ld1 (cxg _) (i := 0) rfl htr rfl ?_
  refine nw (by omega) (by omega) ?_
  refine bsplitd (fun h1 => ?_) (fun h1 => ?_)
  · refine ld1 (cxg _) (i := 0) rfl htr rfl ?_
    refine NeedL.mk Nat (fun k => [(0, .v (.pointer (some ⟨bq, 0, none⟩))), (1, .v (.string (bs s))), (5, .v (.int .i64 (s.length + ctP s k : Nat))), (6, .v (.bool (decide (ctP s k ≠ 0)))), (30, .v (.slice ta 2 tc)), (31, .v (.int .i64 2)), (32, .v (.int .i64 k))]) (fun _ => [.hp (Hp.whole w)])
      (fun k => k ≤ 2) (fun k => 2 - k) 0 (by decide) (Ent.mk (fun _ _ h => h) (by rw [hz]; rfl) rfl) ?_
    intro k hk
    match k, hk with
    | 0, _ =>
      refine idx (cxg _) (e := 9) rfl hR.tr 0 rfl (by decide) (fun b9 o9 cs hcs hRc hcell => ?_)
      subst hRc
      refine ld1 (cxg _) (i := 0) rfl (hcell 0 _ rfl) rfl ?_
      refine callV _ (fun w' hm => count_spec s 92 w') ?_
      have hstep : ctP s 1 = ctP s 0 + s.count 92 := (Nat.zero_add _).symm
      have hle : ctP s 1 ≤ s.length := ctP_le s 1
      generalize hct : s.count 92 = ct at *
      refine bsplitd (fun h4 => ?_) (fun h4 => ?_)
      · obtain ⟨b2, c2, hcl, _, _⟩ := hR.hit (c := 92) (.inr rfl)
        refine NeedD.by_order (cxg _) (.take 0 <| .take 1 <| .take 2 <| .take 3 <| .take 4 <| .take 5 <| .take 6 <| .take 7 <| .take 8 <| .take 9 <| .take 10 <| .take 11 <| .take 12 <| .take 13 <| .done) (by kernel_rfl) ?_
        refine qIdxL (cxg _) rfl rfl 0 rfl (by decide) ?_
        refine idxA (cxg _) (T := 212) rfl rfl rfl 92 rfl rfl ?_
        refine ld1 (cxg _) (i := 0) rfl hcl rfl ?_
        refine nw (by decide) (by decide) ?_
        refine nw (by omega) (by omega) ?_
        refine nw (by omega) (by omega) ?_
        refine nw (by decide) (by decide) ?_
        have e5 : ((s.length + ctP s 1 : Nat) : Int) = ((s.length + ctP s 0 : Nat) : Int) + (ct : Int) * ((2 : Nat) - 1 : Int) := by omega
        have e6 : decide (ctP s 1 ≠ 0) = true := decide_eq_true (by omega)
        exact ⟨1, by decide, by decide, Ent.mk (fun _ _ h => h) (by (try dsimp only); rw [e5, e6]; rfl) rfl⟩
      · have h4 : ct = 0 := by omega
        refine nw (by decide) (by decide) ?_
        have e5 : ctP s 1 = ctP s 0 := by omega
        exact ⟨1, by decide, by decide, Ent.mk (fun _ _ h => h) (by (try dsimp only); rw [e5]; rfl) rfl⟩
    | 1, _ =>
      refine idx (cxg _) (e := 9) rfl hR.tr 1 rfl (by decide) (fun b9 o9 cs hcs hRc hcell => ?_)
      subst hRc
      refine ld1 (cxg _) (i := 0) rfl (hcell 0 _ rfl) rfl ?_
      refine callV _ (fun w' hm => count_spec s 34 w') ?_
      have hstep : ctP s 2 = ctP s 1 + s.count 34 := rfl
      have hle : ctP s 2 ≤ s.length := ctP_le s 2
      generalize hct : s.count 34 = ct at *
      refine bsplitd (fun h4 => ?_) (fun h4 => ?_)
      · obtain ⟨b2, c2, hcl, _, _⟩ := hR.hit (c := 34) (.inl rfl)
        refine NeedD.by_order (cxg _) (.take 0 <| .take 1 <| .take 2 <| .take 3 <| .take 4 <| .take 5 <| .take 6 <| .take 7 <| .take 8 <| .take 9 <| .take 10 <| .take 11 <| .take 12 <| .take 13 <| .done) (by kernel_rfl) ?_
        refine qIdxL (cxg _) rfl rfl 0 rfl (by decide) ?_
        refine idxA (cxg _) (T := 212) rfl rfl rfl 34 rfl rfl ?_
        refine ld1 (cxg _) (i := 0) rfl hcl rfl ?_
        refine nw (by decide) (by decide) ?_
        refine nw (by omega) (by omega) ?_
        refine nw (by omega) (by omega) ?_
        refine nw (by decide) (by decide) ?_
        have e5 : ((s.length + ctP s 2 : Nat) : Int) = ((s.length + ctP s 1 : Nat) : Int) + (ct : Int) * ((2 : Nat) - 1 : Int) := by omega
        have e6 : decide (ctP s 2 ≠ 0) = true := decide_eq_true (by omega)
        exact ⟨2, by decide, by decide, Ent.mk (fun _ _ h => h) (by (try dsimp only); rw [e5, e6]; rfl) rfl⟩
      · have h4 : ct = 0 := by omega
        refine nw (by decide) (by decide) ?_
        have e5 : ctP s 2 = ctP s 1 := by omega
        exact ⟨2, by decide, by decide, Ent.mk (fun _ _ h => h) (by (try dsimp only); rw [e5]; rfl) rfl⟩
    | 2, _ =>
      have e2 : ctP s 2 = spN s := rfl
      rw [e2]
      refine bsplit (fun h6 => ?_) (fun h6 => ?_)
      · have h6 : spN s = 0 := by simpa using h6
        rw [esc_same h6]
        exact ⟨[], ⟨rfl, rfl⟩, fun w' h => h.pick [0] rfl rfl⟩
      · have h6 : spN s ≠ 0 := by simpa using h6
        refine mkO (f := fU8) (cxg _) (e := 5) rfl (escF s).length 0 rfl (by omega) (by omega) rfl (by omega) fun o85 ho85n ho85 => ?_
        refine NeedL.mk (Nat × Dw.Os) (fun g => [(0, .v (.pointer (some ⟨bq, 0, none⟩))), (1, .v (.string (bs s))), (12, .v (o85.v)), (13, .v (.int .i64 (escF (s.take g.1)).length)), (14, .v (.int .i64 g.1))]) (fun g => [.hp (Hp.whole w), .hp g.2.h])
          (fun g => g.1 ≤ s.length ∧ (g.2.a = o85.a ∧ g.2.n = o85.n ∧ g.2.c = o85.c) ∧ OwnO fU8 5 1 g.2 (bufE s g.1)) (fun g => s.length - g.1) (0, o85) ⟨Nat.zero_le _, ⟨rfl, rfl, rfl⟩, by dsimp only; rw [bufE_zero]; exact ho85⟩ (Ent.mk (fun _ _ h => h) rfl rfl) ?_
        rintro ⟨i, ⟨oa, on, oc, oh⟩⟩ ⟨hi, ⟨ha, hnn, hcc⟩, ho⟩
        dsimp only at ha hnn hcc hi ho ⊢
        subst ha hnn hcc
        refine bsplitd (fun h8 => ?_) (fun h8 => ?_)
        · have hi1 : i < s.length := by omega
          obtain ⟨c, hc⟩ : ∃ c, c = s.getD i 0 := ⟨_, rfl⟩
          have hbl := bufE_len s i
          have hlt : (escF (s.take i)).length + (esc1 c).length ≤ (escF s).length := by have h := esc_take_le s (i + 1); rw [esc_take hi1, List.length_append, ← hc] at h; exact h
          have hlen1 : (escF (s.take (i + 1))).length = (escF (s.take i)).length + (esc1 c).length := by rw [esc_take hi1, List.length_append, ← hc]
          refine qIdxL (cxg _) rfl rfl i rfl hi1 ?_
          rw [← hc]
          refine idxA (cxg _) (T := 212) rfl rfl rfl c.toNat rfl (blt256 c) ?_
          by_cases hsp : c = 34 ∨ c = 92
          · obtain ⟨b2, c2, hcl, hc0, hc1⟩ := hR.hit hsp
            have he2 : esc1 c = [92, c] := by unfold esc1; rw [if_pos hsp]
            rw [he2] at hlt hlen1
            have hlt : (escF (s.take i)).length + 2 ≤ (escF s).length := hlt
            have hlen1 : (escF (s.take (i + 1))).length = (escF (s.take i)).length + 2 := hlen1
            refine ld1 (cxg _) (i := 0) rfl hcl rfl ?_
            refine qNilNe rfl ?_
            obtain ⟨b, hb⟩ := ho.addr (by rw [bufE_len]; omega)
            have hb : o85.a = some ⟨b, 0, none⟩ := hb
            have hcap : o85.n ≤ o85.c := ho.2.cap
            have hput := bufE_put hi1
            rw [← hc, he2] at hput
            refine NeedD.by_order0 (cxg _) (.take 0 <| .take 1 <| .take 2 <| .take 3 <| .take 4 <| .take 5 <| .take 6 <| .take 7 <| .take 8 <| .take 9 <| .run 10 <| .take 11 <| .take 12 <| .done) (by kernel_rfl) (subL_blank _ 1) ?_
            refine slO (cxg _) (e := 5) (a := o85.a) (n := o85.n) (c := o85.c) rfl hb (escF (s.take i)).length rfl (by omega) hcap ?_
            refine idxA (cxg _) (T := 212) rfl rfl rfl c.toNat rfl (blt256 c) ?_
            refine ld1 (cxg _) (i := 0) rfl hcl rfl ?_
            refine cpyO (f := fU8) (cxg _) (e := 5) rfl rfl (fun _ => rfl) (i := 1) (o := ⟨o85.a, o85.n, o85.c, oh⟩) rfl hb (M := [92, c]) ho (by rw [bufE_len]; exact hlt) (by simp) rfl (fun w' hm j v hj => ?_) rfl fun o2 f1 f2 f3 ho2 => ?_
            · have h0 : (Hp.whole w).cell? ((⟨b2, 0, none⟩ : Addr).add j) = some v := by
                match j, hj with
                | 0, hj => cases hj; exact hc0
                | 1, hj => cases hj; exact hc1
              exact (hm 0 _ rfl : (Hp.whole w).In w').cell h0
            refine ⟨(by repeat first | exact trivial | refine ⟨.inl rfl, ?_⟩ | refine ⟨.inr rfl, ?_⟩), ?_⟩
            refine nw (by have : ([92, c] : Byts).length = 2 := rfl; omega) (by have : ([92, c] : Byts).length = 2 := rfl; omega) ?_
            refine nw (by omega) (by omega) ?_
            have e13 : (((escF (s.take (i + 1))).length : Nat) : Int) = ((escF (s.take i)).length : Nat) + (([92, c] : Byts).length : Nat) := by rw [hlen1]; rfl
            exact ⟨(i + 1, o2), ⟨hi1, ⟨f1, f2, f3⟩, by dsimp only; rw [← hput]; exact ho2⟩, by dsimp only; omega, Ent.mk (fun _ _ h => h) (by dsimp only; rw [e13]; rfl) rfl⟩
          · have hcl := hR.miss hsp
            have he1 : esc1 c = [c] := by unfold esc1; rw [if_neg hsp]
            rw [he1] at hlt hlen1
            have hlt : (escF (s.take i)).length + 1 ≤ (escF s).length := hlt
            have hlen1 : (escF (s.take (i + 1))).length = (escF (s.take i)).length + 1 := hlen1
            have hset := bufE_set hi1 (by rw [← hc]; exact hsp)
            rw [← hc] at hset
            refine ld1 (cxg _) (i := 0) rfl hcl rfl ?_
            refine qNilNe rfl ?_
            have hkl : (escF (s.take i)).length < (bufE s i).length := by omega
            refine oidx1 (f := fU8) (cxg _) (e := 5) rfl rfl ho (escF (s.take i)).length rfl hkl (fun b9 hb9 => ?_)
            refine osto (g := fun x : UInt8 => .int .u8 x.toNat) (fun _ => rfl) (cxg _) (i := 1) rfl hb9 ho hkl rfl rfl c rfl rfl rfl fun o2 f1 f2 f3 ho2 => ?_
            refine nw (by omega) (by omega) ?_
            refine nw (by omega) (by omega) ?_
            have e13 : (((escF (s.take (i + 1))).length : Nat) : Int) = ((escF (s.take i)).length : Nat) + 1 := by rw [hlen1]; rfl
            exact ⟨(i + 1, o2), ⟨hi1, ⟨f1, f2, f3⟩, by dsimp only; rw [← hset]; exact ho2⟩, by dsimp only; omega, Ent.mk (fun _ _ h => h) (by dsimp only; rw [e13]; rfl) rfl⟩
        · have hi2 : i = s.length := by omega
          subst hi2
          rw [bufE_end] at ho
          refine qStrO (i := 1) (o := ⟨o85.a, o85.n, o85.c, oh⟩) rfl ho (by omega) ?_
          exact ⟨[], ⟨rfl, rfl⟩, fun w' h => h.pick [0] rfl rfl⟩
  · refine NeedL.mk Nat (fun i => [(0, .v (.pointer (some ⟨bq, 0, none⟩))), (1, .v (.string (bs s))), (5, .v (.int .i64 (s.length + spN (s.take i) : Nat))), (6, .v (.bool (decide (spN (s.take i) ≠ 0)))), (10, .v (.int .i64 i))]) (fun _ => [.hp (Hp.whole w)])
      (fun i => i ≤ s.length) (fun i => s.length - i) 0 (Nat.zero_le _) (Ent.mk (fun _ _ h => h) (by rw [hz]; rfl) rfl) ?_
    intro i hi
    dsimp only at *
    refine bsplitd (fun h14 => ?_) (fun h14 => ?_)
    · have hi1 : i < s.length := by omega
      obtain ⟨c, hc⟩ : ∃ c, c = s.getD i 0 := ⟨_, rfl⟩
      have hst := spN_take hi1
      have hle := spN_le (s.take (i + 1))
      rw [List.length_take] at hle
      rw [← hc] at hst
      refine qIdxL (cxg _) rfl rfl i rfl hi1 ?_
      rw [← hc]
      refine idxA (cxg _) (T := 212) rfl rfl rfl c.toNat rfl (blt256 c) ?_
      by_cases hsp : c = 34 ∨ c = 92
      · obtain ⟨b2, c2, hcl, hc0, hc1⟩ := hR.hit hsp
        rw [if_pos hsp] at hst
        refine ld1 (cxg _) (i := 0) rfl hcl rfl ?_
        refine qNilNe rfl ?_
        refine idxA (cxg _) (T := 212) rfl rfl rfl c.toNat rfl (blt256 c) ?_
        refine ld1 (cxg _) (i := 0) rfl hcl rfl ?_
        refine nw (by decide) (by decide) ?_
        refine nw (by omega) (by omega) ?_
        refine nw (by omega) (by omega) ?_
        have e5 : ((s.length + spN (s.take (i + 1)) : Nat) : Int) = ((s.length + spN (s.take i) : Nat) : Int) + ((2 : Nat) - 1 : Int) := by omega
        have e6 : decide (spN (s.take (i + 1)) ≠ 0) = true := decide_eq_true (by omega)
        exact ⟨i + 1, hi1, by (try dsimp only); omega, Ent.mk (fun _ _ h => h) (by (try dsimp only); rw [e5, e6]; rfl) rfl⟩
      · have hcl := hR.miss hsp
        rw [if_neg hsp] at hst
        refine ld1 (cxg _) (i := 0) rfl hcl rfl ?_
        refine qNilNe rfl ?_
        refine nw (by omega) (by omega) ?_
        exact ⟨i + 1, hi1, by (try dsimp only); omega, Ent.mk (fun _ _ h => h) (by (try dsimp only); rw [hst]; rfl) rfl⟩
    · have hi2 : i = s.length := by omega
      subst hi2
      rw [List.take_length]
      refine bsplit (fun h6 => ?_) (fun h6 => ?_)
      · have h6 : spN s = 0 := by simpa using h6
        rw [esc_same h6]
        exact ⟨[], ⟨rfl, rfl⟩, fun w' h => h.pick [0] rfl rfl⟩
      · have h6 : spN s ≠ 0 := by simpa using h6
        refine mkO (f := fU8) (cxg _) (e := 5) rfl (escF s).length 0 rfl (by omega) (by omega) rfl (by omega) fun o85 ho85n ho85 => ?_
        refine NeedL.mk (Nat × Dw.Os) (fun g => [(0, .v (.pointer (some ⟨bq, 0, none⟩))), (1, .v (.string (bs s))), (12, .v (o85.v)), (13, .v (.int .i64 (escF (s.take g.1)).length)), (14, .v (.int .i64 g.1))]) (fun g => [.hp (Hp.whole w), .hp g.2.h])
          (fun g => g.1 ≤ s.length ∧ (g.2.a = o85.a ∧ g.2.n = o85.n ∧ g.2.c = o85.c) ∧ OwnO fU8 5 1 g.2 (bufE s g.1)) (fun g => s.length - g.1) (0, o85) ⟨Nat.zero_le _, ⟨rfl, rfl, rfl⟩, by dsimp only; rw [bufE_zero]; exact ho85⟩ (Ent.mk (fun _ _ h => h) rfl rfl) ?_
        rintro ⟨i, ⟨oa, on, oc, oh⟩⟩ ⟨hi, ⟨ha, hnn, hcc⟩, ho⟩
        dsimp only at ha hnn hcc hi ho ⊢
        subst ha hnn hcc
        refine bsplitd (fun h8 => ?_) (fun h8 => ?_)
        · have hi1 : i < s.length := by omega
          obtain ⟨c, hc⟩ : ∃ c, c = s.getD i 0 := ⟨_, rfl⟩
          have hbl := bufE_len s i
          have hlt : (escF (s.take i)).length + (esc1 c).length ≤ (escF s).length := by have h := esc_take_le s (i + 1); rw [esc_take hi1, List.length_append, ← hc] at h; exact h
          have hlen1 : (escF (s.take (i + 1))).length = (escF (s.take i)).length + (esc1 c).length := by rw [esc_take hi1, List.length_append, ← hc]
          refine qIdxL (cxg _) rfl rfl i rfl hi1 ?_
          rw [← hc]
          refine idxA (cxg _) (T := 212) rfl rfl rfl c.toNat rfl (blt256 c) ?_
          by_cases hsp : c = 34 ∨ c = 92
          · obtain ⟨b2, c2, hcl, hc0, hc1⟩ := hR.hit hsp
            have he2 : esc1 c = [92, c] := by unfold esc1; rw [if_pos hsp]
            rw [he2] at hlt hlen1
            have hlt : (escF (s.take i)).length + 2 ≤ (escF s).length := hlt
            have hlen1 : (escF (s.take (i + 1))).length = (escF (s.take i)).length + 2 := hlen1
            refine ld1 (cxg _) (i := 0) rfl hcl rfl ?_
            refine qNilNe rfl ?_
            obtain ⟨b, hb⟩ := ho.addr (by rw [bufE_len]; omega)
            have hb : o85.a = some ⟨b, 0, none⟩ := hb
            have hcap : o85.n ≤ o85.c := ho.2.cap
            have hput := bufE_put hi1
            rw [← hc, he2] at hput
            refine NeedD.by_order0 (cxg _) (.take 0 <| .take 1 <| .take 2 <| .take 3 <| .take 4 <| .take 5 <| .take 6 <| .take 7 <| .take 8 <| .take 9 <| .run 10 <| .take 11 <| .take 12 <| .done) (by kernel_rfl) (subL_blank _ 1) ?_
            refine slO (cxg _) (e := 5) (a := o85.a) (n := o85.n) (c := o85.c) rfl hb (escF (s.take i)).length rfl (by omega) hcap ?_
            refine idxA (cxg _) (T := 212) rfl rfl rfl c.toNat rfl (blt256 c) ?_
            refine ld1 (cxg _) (i := 0) rfl hcl rfl ?_
            refine cpyO (f := fU8) (cxg _) (e := 5) rfl rfl (fun _ => rfl) (i := 1) (o := ⟨o85.a, o85.n, o85.c, oh⟩) rfl hb (M := [92, c]) ho (by rw [bufE_len]; exact hlt) (by simp) rfl (fun w' hm j v hj => ?_) rfl fun o2 f1 f2 f3 ho2 => ?_
            · have h0 : (Hp.whole w).cell? ((⟨b2, 0, none⟩ : Addr).add j) = some v := by
                match j, hj with
                | 0, hj => cases hj; exact hc0
                | 1, hj => cases hj; exact hc1
              exact (hm 0 _ rfl : (Hp.whole w).In w').cell h0
            refine ⟨(by repeat first | exact trivial | refine ⟨.inl rfl, ?_⟩ | refine ⟨.inr rfl, ?_⟩), ?_⟩
            refine nw (by have : ([92, c] : Byts).length = 2 := rfl; omega) (by have : ([92, c] : Byts).length = 2 := rfl; omega) ?_
            refine nw (by omega) (by omega) ?_
            have e13 : (((escF (s.take (i + 1))).length : Nat) : Int) = ((escF (s.take i)).length : Nat) + (([92, c] : Byts).length : Nat) := by rw [hlen1]; rfl
            exact ⟨(i + 1, o2), ⟨hi1, ⟨f1, f2, f3⟩, by dsimp only; rw [← hput]; exact ho2⟩, by dsimp only; omega, Ent.mk (fun _ _ h => h) (by dsimp only; rw [e13]; rfl) rfl⟩
          · have hcl := hR.miss hsp
            have he1 : esc1 c = [c] := by unfold esc1; rw [if_neg hsp]
            rw [he1] at hlt hlen1
            have hlt : (escF (s.take i)).length + 1 ≤ (escF s).length := hlt
            have hlen1 : (escF (s.take (i + 1))).length = (escF (s.take i)).length + 1 := hlen1
            have hset := bufE_set hi1 (by rw [← hc]; exact hsp)
            rw [← hc] at hset
            refine ld1 (cxg _) (i := 0) rfl hcl rfl ?_
            refine qNilNe rfl ?_
            have hkl : (escF (s.take i)).length < (bufE s i).length := by omega
            refine oidx1 (f := fU8) (cxg _) (e := 5) rfl rfl ho (escF (s.take i)).length rfl hkl (fun b9 hb9 => ?_)
            refine osto (g := fun x : UInt8 => .int .u8 x.toNat) (fun _ => rfl) (cxg _) (i := 1) rfl hb9 ho hkl rfl rfl c rfl rfl rfl fun o2 f1 f2 f3 ho2 => ?_
            refine nw (by omega) (by omega) ?_
            refine nw (by omega) (by omega) ?_
            have e13 : (((escF (s.take (i + 1))).length : Nat) : Int) = ((escF (s.take i)).length : Nat) + 1 := by rw [hlen1]; rfl
            exact ⟨(i + 1, o2), ⟨hi1, ⟨f1, f2, f3⟩, by dsimp only; rw [← hset]; exact ho2⟩, by dsimp only; omega, Ent.mk (fun _ _ h => h) (by dsimp only; rw [e13]; rfl) rfl⟩
        · have hi2 : i = s.length := by omega
          subst hi2
          rw [bufE_end] at ho
          refine qStrO (i := 1) (o := ⟨o85.a, o85.n, o85.c, oh⟩) rfl ho (by omega) ?_
          exact ⟨[], ⟨rfl, rfl⟩, fun w' h => h.pick [0] rfl rfl⟩
end Go.Proofs.YtoholjdojdmbkaaGreatDoor
namespace Go.Proofs.YtoholjdojdmbkaaGreatDoor
open Go Go.RowKit Go.Dw
theorem callMV {P : Program} {s : List Ch} {v r : Value} {m : String} {args : List Value} {q : TV → List Ch → Prop} {f : Nat} {fa : Array Value} (hm : ∀ w, (callMethod v m args.toArray).run P w = .ok (.enter f fa) w) (hc : ∀ w, Mem s w → CallsE P f fa w (RetV w r)) (k : q (.v r) s) : NeedM P s v m args q := by
  refine ⟨fun w0 w hok => ⟨f, fa, hm w, (hc w hok.mem).2.mono fun e w' he => ?_⟩⟩
  obtain ⟨v', cs, rfl, h1, rfl, rfl⟩ := he
  have h2 := hok.call h1
  rw [List.append_nil] at h2
  exact ⟨_, s, rfl, h2, Keep.refl s, k⟩
theorem NewReplacer_spec {a : Option Addr} {n c : Nat} (w : World) (hL : Sl (encF fS) 1 (Hp.whole w) a n c rpL) :
    CallsE Tryz.prog 64 #[.slice a n c] w (Ret w fun v cs => ∃ b o, v = .pointer (some ⟨b, 0, none⟩) ∧ cs = [.box b [.int .u32 0, .int .i32 0, .int .u32 0, .nilIface, o.v] 161, .hp o.h] ∧ OwnO fS 9 1 o rpL) := by
  have hn := hL.len
  have hn : n = 4 := hn
  subst hn
  refine enter (X := cx 12) (cxg _) (args := [.slice a 4 c]) [.tmp 2] Tryz.func64 rfl rfl rfl rfl rfl ?_
  refine qRemE 4 2 0 rfl rfl (by decide) (by decide) ?_
  refine app0 (cxg _) (e := 9) rfl (fun _ => rfl) (fun _ => rfl) (k := 0) rfl hL rfl (by decide) fun o' ho' => ?_
  intro b
  exact ⟨[.box b _ _, .hp o'.h], ⟨b, o', rfl, rfl, ho'⟩, fun w' h => h.pick [0, 2, 1] rfl rfl⟩
set_option maxRecDepth 100000 in
theorem callRepl {h0 : Hp} {b1 T1 : Nat} {cs1 : List Value} {b : Nat} {o : Dw.Os} {s : Byts} (hs : s.length < 1000000) (ho : OwnO fS 9 1 o rpL) {q : TV → List Ch → Prop} (hq : ∀ x r, q (.v (.string (bs (escF s)))) (.hp h0 :: .box b1 cs1 T1 :: .box b [.int .u32 1, .int .i32 0, .int .u32 0, x, .slice none 0 0] 161 :: r)) :
    NeedF Tryz.prog [.hp h0, .box b1 cs1 T1, .box b [.int .u32 0, .int .i32 0, .int .u32 0, .nilIface, o.v] 161, .hp o.h] 65 [.pointer (some ⟨b, 0, none⟩), .string (bs s)] q := by
  refine enterF (X := cx 17) (cxg _) (args := [.pointer (some ⟨b, 0, none⟩), .string (bs s)]) [.tmp 4] Tryz.func65 rfl rfl rfl rfl rfl ?_
  refine callDo (i := 2) rfl ?_
  refine enterF (X := cx 10) (cxg _) (args := [.pointer (some ⟨b, 0, none⟩)]) [] Tryz.func110 rfl rfl rfl rfl rfl ?_
  refine call (fun w' hm => build_spec w' (bx_cell (i := 2) (j := 4) rfl rfl hm) ((OwnO.sl (f := fS) (sz := 1) (fun _ => rfl) (by decide) ho).mono (encF_mono _) (hm 3 _ rfl))) ?_
  rintro _ _ ⟨bq, g, rfl, rfl, hI⟩
  refine stBx (cxg _) (i := 2) (j := 3) rfl rfl rfl (by simp) rfl rfl ?_
  refine stBx (cxg _) (i := 2) (j := 4) rfl rfl rfl (by simp) rfl rfl ?_
  refine ⟨⟨rfl, rfl, trivial⟩, rfl, _, rfl, ?_⟩
  refine ldBx (cxg _) (i := 2) (j := 3) rfl rfl rfl ?_
  obtain ⟨h34, h92, htr⟩ := hI
  refine callMV (f := 247) (fa := #[.pointer (some ⟨bq, 0, none⟩), .string (bs s)]) (fun _ => by kernel_rfl) (fun w' hm => bsrReplace_spec (g := g) s hs w' ⟨fun m v hv => ?_, h34.mono (hm 4 _ rfl), h92.mono (hm 4 _ rfl), (OwnO.sl (f := fS) (sz := 1) (fun _ => rfl) (by decide) htr).mono (encF_mono _) (hm 6 _ rfl)⟩) ?_
  · rw [Nat.zero_add]; exact bx_cell (i := 5) rfl hv hm
  exact ⟨⟨rfl, rfl, trivial⟩, hq _ _⟩
def quoR (s : Byts) : Byts × Int := if 4096 < s.length then ([], 5) else if s.any unpB = true then ([], 14) else (quoteF s, 0)
set_option maxRecDepth 100000 in
theorem Quote_spec (s : Byts) (hs : s.length < 1000000) (w : World) : CallsE Tryz.prog 31 #[.string (bs s)] w (RetV w (.tuple #[.string (bs (quoR s).1), .int .i64 (quoR s).2])) := by
  have hz := bs_size s
  unfold quoR
  refine enter (X := cx 15) (cxg _) (args := [.string (bs s)]) [.tmp 2, .tmp 3] Tryz.func31 rfl rfl rfl rfl rfl ?_
  refine bsplitd (fun h1 => ?_) (fun h1 => ?_)
  · rw [if_pos (by omega)]
    exact ⟨[], ⟨rfl, rfl⟩, fun w' h => h⟩
  rw [if_neg (by omega)]
  refine callV _ (fun w' hm => containsUnp_spec s w') ?_
  refine bsplit (fun h2 => ?_) (fun h2 => ?_)
  · rw [if_pos h2]
    exact ⟨[], ⟨rfl, rfl⟩, fun w' h => h⟩
  rw [if_neg (by rw [h2]; decide)]
  have hel := esc_len s
  intro b9
  refine call (fun w' hm => NewReplacer_spec w' (Sl.box (f := fS) (fun _ => rfl) (by decide) (hm 1 _ rfl) rpL rfl rfl (by decide))) ?_
  rintro _ _ ⟨b, o, rfl, rfl, ho⟩
  refine callRepl hs ho fun x r => ?_
  refine qAdd (ty := 9) (a := [34]) (by simp only [List.length_cons, List.length_nil]; omega) ?_
  refine qAdd (ty := 9) (b := [34]) (by simp only [List.length_cons, List.length_nil, List.length_append]; omega) ?_
  exact ⟨[], ⟨rfl, rfl⟩, fun w' h => h.pick [0] rfl rfl⟩
end Go.Proofs.YtoholjdojdmbkaaGreatDoor
