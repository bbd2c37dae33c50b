/- Parts of one proof, joined: I8, Ia, Ib, Ic, Id, Ie, If. No condition of its own. -/
import Derived.Test.YtoholjdojdmbkaaGreatDoorXC
import Derived.Test.YtoholjdojdmbkaaGreatDoorXD
import Derived.Test.YtoholjdojdmbkaaGreatDoorXB
import Derived.Test.YtoholjdojdmbkaaGreatDoorXE
import Derived.Laws.Bits64b
import Derived.Laws.BitsAllLaws
namespace Go.Dw
open Go Go.RowKit
theorem nwMod64 {x y : Int} {q : Int → Prop} (h : x % 18446744073709551616 = y) (hq : q y) : NeedW .u64 x q := ⟨y, by rw [IntKind.wrap_u64, h], hq⟩
theorem nwMod32 {x y : Int} {q : Int → Prop} (h : x % 4294967296 = y) (hq : q y) : NeedW .u32 x q := ⟨y, by rw [IntKind.wrap_u32', h], hq⟩
theorem nw64 {x : Int} {q : Int → Prop} (h1 : 0 ≤ x) (h2 : x < 18446744073709551616) (hq : q x) : NeedW .u64 x q := nwMod64 (Int.emod_eq_of_lt h1 h2) hq
theorem nw32 {x : Int} {q : Int → Prop} (h1 : 0 ≤ x) (h2 : x < 4294967296) (hq : q x) : NeedW .u32 x q := nwMod32 (Int.emod_eq_of_lt h1 h2) hq
theorem nw64Eq {x : Int} (m : Nat) {q : Int → Prop} (h : x = m) (h2 : m < 18446744073709551616) (hq : q (m : Nat)) : NeedW .u64 x q := by subst h; exact nw64 (by omega) (by omega) hq
theorem nw32Eq {x : Int} (m : Nat) {q : Int → Prop} (h : x = m) (h2 : m < 4294967296) (hq : q (m : Nat)) : NeedW .u32 x q := by subst h; exact nw32 (by omega) (by omega) hq
/-- the low 32 bits -/
theorem nwLow {x : Int} (m : Nat) {q : Int → Prop} (h : x = m) (hq : q ((m % 4294967296 : Nat) : Int)) : NeedW .u32 x q := by subst h; exact nwMod32 (by omega) hq
section
variable {P : Program} {s : List Ch} {xo yo : Operand} {ty : Nat} {q : TV → Prop}
theorem shl_run64 (a n : Nat) (k : IntKind) (hn : n < 64) (w : World) : (Op.shift .shl .u64 a k n).run P w = .ok (.int .u64 ((a * 2 ^ n % 18446744073709551616 : Nat) : Int)) w := by
  have h0 : ¬ (n : Int) < 0 := by omega
  have hm : min (n : Int).toNat IntKind.u64.bits = n := by show min n 64 = n; omega
  unfold Op.shift
  rw [if_neg h0]
  dsimp only
  rw [hm, IntKind.wrap_u64]
  have e : ((2 : Int) ^ n) = ((2 ^ n : Nat) : Int) := by simp
  rw [e]
  have e2 : (a : Int) * ((2 ^ n : Nat) : Int) = ((a * 2 ^ n : Nat) : Int) := by simp
  rw [e2]
  rfl
theorem shr_run64 (a n : Nat) (k : IntKind) (hn : n < 64) (w : World) : (Op.shift .shr .u64 a k n).run P w = .ok (.int .u64 ((a / 2 ^ n : Nat) : Int)) w := by
  have h0 : ¬ (n : Int) < 0 := by omega
  have hm : min (n : Int).toNat IntKind.u64.bits = n := by show min n 64 = n; omega
  unfold Op.shift
  rw [if_neg h0]
  dsimp only
  rw [hm, Int.fdiv_eq_ediv_of_nonneg _ (by have := Nat.two_pow_pos n; simp only [Int.pow_nonneg (by decide : (0 : Int) ≤ 2)])]
  have e : ((2 : Int) ^ n) = ((2 ^ n : Nat) : Int) := by simp
  rw [e]
  rfl
theorem shl_run32 (a n : Nat) (k : IntKind) (hn : n < 32) (w : World) : (Op.shift .shl .u32 a k n).run P w = .ok (.int .u32 ((a * 2 ^ n % 4294967296 : Nat) : Int)) w := by
  have h0 : ¬ (n : Int) < 0 := by omega
  have hm : min (n : Int).toNat IntKind.u32.bits = n := by show min n 32 = n; omega
  unfold Op.shift
  rw [if_neg h0]
  dsimp only
  rw [hm, IntKind.wrap_u32']
  have e : ((2 : Int) ^ n) = ((2 ^ n : Nat) : Int) := by simp
  rw [e]
  have e2 : (a : Int) * ((2 ^ n : Nat) : Int) = ((a * 2 ^ n : Nat) : Int) := by simp
  rw [e2]
  rfl
theorem shr_run32 (a n : Nat) (k : IntKind) (hn : n < 32) (w : World) : (Op.shift .shr .u32 a k n).run P w = .ok (.int .u32 ((a / 2 ^ n : Nat) : Int)) w := by
  have h0 : ¬ (n : Int) < 0 := by omega
  have hm : min (n : Int).toNat IntKind.u32.bits = n := by show min n 32 = n; omega
  unfold Op.shift
  rw [if_neg h0]
  dsimp only
  rw [hm, Int.fdiv_eq_ediv_of_nonneg _ (by have := Nat.two_pow_pos n; simp only [Int.pow_nonneg (by decide : (0 : Int) ≤ 2)])]
  have e : ((2 : Int) ^ n) = ((2 ^ n : Nat) : Int) := by simp
  rw [e]
  rfl
theorem qShl64 (a n : Nat) {x y : Int} (hx : x = a) (hy : y = n) (hn : n < 64) (h : q (.v (.int .u64 ((a * 2 ^ n % 18446744073709551616 : Nat) : Int)))) : NeedQ P s (binOp .shl ty (.int .u64 x) (.int .u64 y)) q := by
  subst hx hy
  exact ⟨_, fun w _ => shl_run64 a n .u64 hn w, h⟩
theorem qShr64 (a n : Nat) {x y : Int} (hx : x = a) (hy : y = n) (hn : n < 64) (h : q (.v (.int .u64 ((a / 2 ^ n : Nat) : Int)))) : NeedQ P s (binOp .shr ty (.int .u64 x) (.int .u64 y)) q := by
  subst hx hy
  exact ⟨_, fun w _ => shr_run64 a n .u64 hn w, h⟩
theorem qShlG64 (a n : Nat) {x y : Int} (hx : x = a) (hy : y = n) (hn : n < 64) (h : q (.v (.int .u64 ((a * 2 ^ n % 18446744073709551616 : Nat) : Int)))) : NeedQ P s (do eqGuard .shl ty xo yo (.int .u64 x) (.int .i64 y); binOp .shl ty (.int .u64 x) (.int .i64 y)) q := by
  subst hx hy
  refine ⟨_, fun w _ => ?_, h⟩
  have h1 : (eqGuard .shl ty xo yo (.int .u64 a) (.int .i64 n)).run P w = .ok () w := by simp [eqGuard]
  rw [Sem.run_bind, h1, Result.andThen_ok]
  exact shl_run64 a n .i64 hn w
theorem qShrG64 (a n : Nat) {x y : Int} (hx : x = a) (hy : y = n) (hn : n < 64) (h : q (.v (.int .u64 ((a / 2 ^ n : Nat) : Int)))) : NeedQ P s (do eqGuard .shr ty xo yo (.int .u64 x) (.int .i64 y); binOp .shr ty (.int .u64 x) (.int .i64 y)) q := by
  subst hx hy
  refine ⟨_, fun w _ => ?_, h⟩
  have h1 : (eqGuard .shr ty xo yo (.int .u64 a) (.int .i64 n)).run P w = .ok () w := by simp [eqGuard]
  rw [Sem.run_bind, h1, Result.andThen_ok]
  exact shr_run64 a n .i64 hn w
theorem qShlG32 (a n : Nat) {x y : Int} (hx : x = a) (hy : y = n) (hn : n < 32) (h : q (.v (.int .u32 ((a * 2 ^ n % 4294967296 : Nat) : Int)))) : NeedQ P s (do eqGuard .shl ty xo yo (.int .u32 x) (.int .i64 y); binOp .shl ty (.int .u32 x) (.int .i64 y)) q := by
  subst hx hy
  refine ⟨_, fun w _ => ?_, h⟩
  have h1 : (eqGuard .shl ty xo yo (.int .u32 a) (.int .i64 n)).run P w = .ok () w := by simp [eqGuard]
  rw [Sem.run_bind, h1, Result.andThen_ok]
  exact shl_run32 a n .i64 hn w
theorem qShrG32 (a n : Nat) {x y : Int} (hx : x = a) (hy : y = n) (hn : n < 32) (h : q (.v (.int .u32 ((a / 2 ^ n : Nat) : Int)))) : NeedQ P s (do eqGuard .shr ty xo yo (.int .u32 x) (.int .i64 y); binOp .shr ty (.int .u32 x) (.int .i64 y)) q := by
  subst hx hy
  refine ⟨_, fun w _ => ?_, h⟩
  have h1 : (eqGuard .shr ty xo yo (.int .u32 a) (.int .i64 n)).run P w = .ok () w := by simp [eqGuard]
  rw [Sem.run_bind, h1, Result.andThen_ok]
  exact shr_run32 a n .i64 hn w
theorem qOr64 (a b : Nat) {x y : Int} (hx : x = a) (hy : y = b) (ha : a < 18446744073709551616) (hb : b < 18446744073709551616) (h : q (.v (.int .u64 ((a ||| b : Nat) : Int)))) : NeedQ P s (binOp .or ty (.int .u64 x) (.int .u64 y)) q := by
  subst hx hy
  exact ⟨_, fun w _ => by show Result.ok (Value.int .u64 (bits .or .u64 a b)) w = _; rw [bits_or_u64_nat a b ha hb], h⟩
theorem qOr32 (a b : Nat) {x y : Int} (hx : x = a) (hy : y = b) (ha : a < 4294967296) (hb : b < 4294967296) (h : q (.v (.int .u32 ((a ||| b : Nat) : Int)))) : NeedQ P s (binOp .or ty (.int .u32 x) (.int .u32 y)) q := by
  subst hx hy
  exact ⟨_, fun w _ => by show Result.ok (Value.int .u32 (bits .or .u32 a b)) w = _; rw [u32_or_nat a b ha hb], h⟩
theorem qQuo64 (a b : Nat) {x y : Int} (hx : x = a) (hy : y = b) (hb : 0 < b) (ha : a < 18446744073709551616) (h : q (.v (.int .u64 ((a / b : Nat) : Int)))) : NeedQ P s (binOp .quo ty (.int .u64 x) (.int .u64 y)) q := by
  subst hx hy
  refine ⟨_, fun w _ => ?_, h⟩
  have h0 : ¬ b = 0 := by omega
  have hd' : a / b < 18446744073709551616 := Nat.lt_of_le_of_lt (Nat.div_le_self a b) ha
  have hw : IntKind.u64.wrap ((a / b : Nat) : Int) = (a / b : Nat) := by rw [IntKind.wrap_u64]; exact Int.emod_eq_of_lt (Int.natCast_nonneg _) (Int.ofNat_lt.2 hd')
  rw [Int.natCast_ediv] at hw
  rw [Int.natCast_ediv]
  simp [binOp, Op.intDiv, h0]
  exact hw
theorem qRem64 (a b : Nat) {x y : Int} (hx : x = a) (hy : y = b) (hb : 0 < b) (ha : a < 18446744073709551616) (h : q (.v (.int .u64 ((a % b : Nat) : Int)))) : NeedQ P s (binOp .rem ty (.int .u64 x) (.int .u64 y)) q := by
  subst hx hy
  refine ⟨_, fun w _ => ?_, h⟩
  have h0 : ¬ b = 0 := by omega
  have hd' : a % b < 18446744073709551616 := Nat.lt_of_le_of_lt (Nat.mod_le a b) ha
  rw [Int.natCast_emod]
  simp [binOp, Op.intDiv, h0]
  exact Int.tmod_eq_emod_of_nonneg (Int.natCast_nonneg _)
end
/-! ### two chunks read as one -/
theorem Hp.join_in {h k : Hp} {w : World} (a : h.In w) (b : k.In w) : (h.join k).In w := fun x o e => by
  unfold Hp.join at e
  cases hx : h x with
  | some y => rw [hx] at e; cases e; exact a x _ hx
  | none => rw [hx] at e; exact b x _ e
theorem Hp.join_assoc (a b c : Hp) : (a.join b).join c = a.join (b.join c) := by
  funext x
  unfold Hp.join
  cases a x <;> cases b x <;> rfl
theorem Hp.join_emp (a : Hp) : a.join Hp.emp = a := by
  funext x
  unfold Hp.join Hp.emp
  cases a x <;> rfl
theorem Hp.emp_join (a : Hp) : Hp.emp.join a = a := rfl
/-- of two heaplets of one world the second lies in both together -/
theorem Hp.le_join_in {h k : Hp} {w : World} (a : h.In w) (b : k.In w) : k.le (h.join k) := fun x o e => by
  unfold Hp.join
  cases hx : h x with
  | some y =>
    have h1 := a x _ hx
    have h2 := b x _ e
    rw [h1] at h2; exact h2
  | none => exact e
theorem ldV {X : Ctx} (hX : X.Good) {s : List Ch} {T : Nat} {h : Hp} (hV : ∀ w, Mem s w → h.In w) {b o : Nat} {v : Value} (hc : h.cell? ⟨b, o, none⟩ = some v) (hT : (tget X.tt T).map TI.agg = some false) {q : TV → Prop} (hq : q (.v v)) :
    NeedQ X.P s (Instr.loadAt T (.pointer (some ⟨b, o, none⟩))) q := by
  refine ⟨v, fun w hm => ?_, hq⟩
  cases ht : tget X.tt T with
  | none => simp [ht] at hT
  | some ti =>
    have ha : ti.agg = false := by simpa [ht] using hT
    have := (hV w hm).cell hc
    simp [Instr.loadAt, Instr.sureAddr, loadVar, (Good.und hX ht).agg, ha, this]
/-- a part of a slice, from its begin -/
theorem Sl.upto {α : Type} {R : Enc α} {sz : Nat} {h : Hp} {a : Option Addr} {n c : Nat} {L : List α} (hs : Sl R sz h a n c L) {k : Nat} (hk : k ≤ n) : Sl R sz h a k c (L.take k) := by
  have := hs.len
  have := hs.cap
  refine ⟨by rw [List.length_take]; omega, by omega, fun i hi => ?_⟩
  rw [List.length_take] at hi
  obtain ⟨b, off, cs, h1, h2, h3, h4⟩ := hs.cells i (by omega)
  refine ⟨b, off, cs, h1, h2, ?_, h4⟩
  rw [List.getElem_take]; exact h3
end Go.Dw
namespace Go.Proofs.YtoholjdojdmbkaaGreatDoor
open Go Go.RowKit Go.Dw
/-! ### magnitudes -/
def fW (d : Nat) : List Value := [.int .u32 (d : Int)]
/-- the length without zeros at the end -/
def trN : List Nat → Nat
  | [] => 0
  | d :: m => if trN m = 0 ∧ d = 0 then 0 else trN m + 1
theorem trN_le : ∀ L, trN L ≤ L.length
  | [] => Nat.le_refl _
  | d :: m => by
    have := trN_le m
    unfold trN
    split
    · exact Nat.zero_le _
    · simp only [List.length_cons]; omega
theorem trN_snoc0 : ∀ L, trN (L ++ [0]) = trN L
  | [] => rfl
  | d :: m => by
    have := trN_snoc0 m
    show trN (d :: (m ++ [0])) = _
    unfold trN
    rw [this]
theorem trN_snoc : ∀ (L : List Nat) {x : Nat}, x ≠ 0 → trN (L ++ [x]) = L.length + 1
  | [], x, h => by
    show trN [x] = 1
    unfold trN
    rw [if_neg fun e => h e.2]
    rfl
  | d :: m, x, h => by
    have := trN_snoc m h
    show trN (d :: (m ++ [x])) = _
    unfold trN
    rw [this, if_neg (by omega)]
    rfl
def trL (L : List Nat) : List Nat := L.take (trN L)
theorem can_trim : ∀ {L : List Nat}, LimL L → Can (trL L) (valL L) := by
  intro L hL
  have key : ∀ (n : Nat) (L : List Nat), L.length = n → LimL L → Can (trL L) (valL L) := by
    intro n
    induction n with
    | zero => intro L hl _; rw [List.eq_nil_of_length_eq_zero hl]; exact Can.nil
    | succ n ih =>
      intro L hl hL
      obtain ⟨a, p, e, hl2, _⟩ := snoc_of (m := L) (by omega)
      subst e
      by_cases hp : p = 0
      · subst hp
        obtain ⟨h1, h2⟩ := drop_zero hL
        rw [h2]
        have e : trL (a ++ [0]) = trL a := by
          unfold trL
          rw [trN_snoc0, List.take_append_of_le_length (trN_le a)]
        rw [e]
        exact ih a (by omega) h1
      · have e : trL (a ++ [p]) = a ++ [p] := by
          unfold trL
          rw [trN_snoc a hp]
          exact List.take_of_length_le (by simp)
        rw [e]
        refine trim_done hL (.inr ?_)
        rw [List.length_append, List.length_singleton, Nat.add_sub_cancel, List.getD_eq_getElem?_getD, List.getElem?_append_right (Nat.le_refl _), Nat.sub_self]
        exact hp
  exact key L.length L rfl hL
theorem trL_len (L : List Nat) : (trL L).length = trN L := by
  unfold trL
  rw [List.length_take]
  have := trN_le L
  omega
theorem Can.trN {L : List Nat} {m : Nat} (h : Can L m) : trN L = L.length := by
  rcases Nat.eq_zero_or_pos L.length with g | g
  · rw [List.eq_nil_of_length_eq_zero g]; rfl
  · obtain ⟨a, p, e, hl, hp⟩ := snoc_of g
    have := h.t (L.length - 1) g (by omega)
    rw [hp] at this
    rw [e, trN_snoc a this, List.length_append]; rfl
theorem trim_spec {L : List Nat} {a : Option Addr} {n c : Nat} (w : World) (hs : Sl (encF fW) 1 (Hp.whole w) a n c L) (hL : L.length < 1000000) : CallsE Tryz.prog 93 #[.slice a n c] w (RetV w (.slice a (trN L) c)) := by
  have hn := hs.len
  have hc := hs.cap
  refine enter (X := cx 21) (cxg _) (args := [.slice a n c]) [.tmp 2] Tryz.func93 rfl rfl rfl rfl rfl ?_
  refine NeedL.mk Nat (fun k => [(0, .v (.slice a k c))]) (fun _ => [.hp (Hp.whole w)])
    (fun k => k ≤ n ∧ trN (L.take k) = trN L) (fun k => k) n ⟨Nat.le_refl _, by rw [List.take_of_length_le (by omega)]⟩ (Ent.mk (fun _ _ h => h) rfl rfl) ?_
  rintro k ⟨hk, ht⟩
  dsimp only at *
  have hsk := hs.upto hk
  have hlk : (L.take k).length = k := by rw [List.length_take]; omega
  refine bsplitd (fun h1 => ?_) (fun h1 => ?_)
  · refine nw (by omega) (by omega) ?_
    refine idx (cxg _) (e := 88) rfl hsk (k - 1) (by omega) (by omega) (fun b9 o9 cs hcs hR hcell2 => ?_)
    subst hR
    refine ld1 (cxg _) (i := 0) rfl (hcell2 0 _ rfl) rfl ?_
    have e2 : L.take k = L.take (k - 1) ++ [(L.take k)[k - 1]'(by omega)] := by
      have := List.take_succ_eq_append_getElem (l := L.take k) (i := k - 1) (by omega)
      rw [show k - 1 + 1 = k by omega, List.take_take, List.take_take, show min k k = k by omega, show min (k - 1) k = k - 1 by omega] at this
      exact this
    refine bsplitd (fun h3 => ?_) (fun h3 => ?_)
    · refine nw (by omega) (by omega) ?_
      refine slT (cxg _) (e := 88) rfl (k - 1) (by omega) (by omega) ?_
      exact ⟨k - 1, ⟨by omega, by
        rw [← ht, e2]
        have : (L.take k)[k - 1]'(by omega) = 0 := by omega
        rw [this, trN_snoc0]⟩, by omega, Ent.mk (fun _ _ h => h) rfl rfl⟩
    · have e4 : trN L = k := by
        rw [← ht, e2, trN_snoc _ (by omega), List.length_take]; omega
      exact ⟨[], ⟨by rw [e4], rfl⟩, fun w' h => h.pick [0] rfl rfl⟩
  · have hk0 : k = 0 := by omega
    subst hk0
    exact ⟨[], ⟨by rw [← ht]; rfl, rfl⟩, fun w' h => h.pick [0] rfl rfl⟩
def intV (neg : Bool) (a : Option Addr) (n c : Nat) : Value := .agg #[.bool neg, .slice a n c]
theorem signed_spec (neg : Bool) {L : List Nat} {a : Option Addr} {n c : Nat} (w : World) (hs : Sl (encF fW) 1 (Hp.whole w) a n c L) (hL : L.length < 1000000) : CallsE Tryz.prog 52 #[.bool neg, .slice a n c] w (RetV w (intV (neg && decide (0 < trN L)) a (trN L) c)) := by
  refine enter (X := cx 15) (cxg _) (args := [.bool neg, .slice a n c]) [.cell 4 54] Tryz.func52 rfl rfl rfl rfl rfl ?_
  intro b1
  refine callV _ (fun w' hm => trim_spec w' (hs.mono (encF_mono _) (hm 0 _ rfl)) hL) ?_
  refine bsplit (fun h1 => ?_) (fun h1 => ?_)
  · exact ⟨[], ⟨by subst h1; unfold intV; simp, rfl⟩, fun w' h => h.pick [0] rfl rfl⟩
  · exact ⟨[], ⟨by subst h1; unfold intV; simp, rfl⟩, fun w' h => h.pick [0] rfl rfl⟩
end Go.Proofs.YtoholjdojdmbkaaGreatDoor
namespace Go.Dw
open Go Go.RowKit
/-- old memory as it was, more draws: nothing to say of what is new -/
theorem Ok.ofBelow {w w' : World} (h : Below w.heap.size w w') : Ok w [.hp (Hp.whole w)] w' := by
  refine ⟨h.os, h.tape, h.output, h.size, Nat.le_refl _, fun i c e => ?_, fun i j c d hij e1 e2 => ?_⟩
  · match i, e with
    | 0, e =>
      simp [sget] at e; subst e
      intro b o hb
      have hb' : w.heap[b]? = some o := hb
      have hlt : b < w.heap.size := by
        rcases Nat.lt_or_ge b w.heap.size with g | g
        · exact g
        · rw [Array.getElem?_eq_none g] at hb'; cases hb'
      rw [h.block b hlt]; exact hb'
  · match i, j, e1, e2 with
    | 0, 0, _, _ => exact absurd rfl hij
/-- a new variable's block as a heaplet -/
theorem Ok.boxHp {w0 w : World} {c0 : Ch} {b T : Nat} {cs : List Value} (hok : Ok w0 [c0, .box b cs T] w) : Ok w0 [c0, .hp (Ch.box b cs T).h] w := by
  have tr : ∀ k x, sget [c0, .hp (Ch.box b cs T).h] k = some x → ∃ y, sget [c0, Ch.box b cs T] k = some y ∧ x.h = y.h := fun k x hx => by
    match k, hx with
    | 0, hx => exact ⟨x, hx, rfl⟩
    | 1, hx => simp [sget] at hx; subst hx; exact ⟨_, rfl, rfl⟩
  refine ⟨hok.os, hok.tape, hok.output, hok.size, hok.drawn, fun k x hx => ?_, fun j k x y hjk h1 h2 => ?_⟩
  · obtain ⟨y, h1, h2⟩ := tr k x hx
    rw [h2]; exact hok.mem k y h1
  · obtain ⟨x', e1, e2⟩ := tr j x h1
    obtain ⟨y', e3, e4⟩ := tr k y h2
    rw [e2, e4]; exact hok.disj j k x' y' hjk e1 e3
theorem flatLen' {α : Type} {f : α → List Value} {sz : Nat} (hf : ∀ x, (f x).length = sz) (L : List α) : (L.flatMap f).length = L.length * sz := flatN hf L
theorem OwnO.ofBox {α : Type} {f : α → List Value} {sz : Nat} (hf : ∀ x, (f x).length = sz) {b T : Nat} {cs : List Value} (L : List α) {n : Nat} (hL : cs = L.flatMap f) (hn : n = L.length) (hl : L.length < 1000000) :
    OwnO f T sz ⟨some ⟨b, 0, none⟩, n, n, (Ch.box b cs T).h⟩ L := by
  subst hL hn
  have hl := flatLen' hf L
  refine ⟨rfl, hl, .inr ⟨b, _, rfl, Hp.one_self _ _, Nat.le_refl _, by unfold maxLen; dsimp only; omega, by simpa using hl, ?_⟩⟩
  exact List.take_of_length_le (Nat.le_of_eq hl)
end Go.Dw
namespace Go.Proofs.YtoholjdojdmbkaaGreatDoor
open Go Go.RowKit Go.Dw
theorem RetV.ofBelow {w : World} {v : Value} {e : Ending} {w' : World} (he : e = .returned v) (h : Below w.heap.size w w') : RetV w v e w' := by
  subst he
  exact ⟨_, [], rfl, Ok.ofBelow h, rfl, rfl⟩
/-- a contract of the library that returns a known value -/
theorem callsLib {P : Program} {f : Nat} {args : Array Value} {w : World} {R : Ending → World → Prop} {v : Value} (he : ∀ w, (callFunc f args).run P w = .ok (.enter f args) w) (hc : Calls P f args w R)
    (hr : ∀ e w', R e w' → e = .returned v ∧ Below w.heap.size w w' ∧ w.drawn ≤ w'.drawn) : CallsE P f args w (RetV w v) :=
  ⟨he, hc.mono fun e w' h => let ⟨h1, h2, _⟩ := hr e w' h; RetV.ofBelow h1 h2⟩
end Go.Proofs.YtoholjdojdmbkaaGreatDoor
namespace Go.Dw
open Go Go.RowKit
/-- the string of a list of bytes -/
def bs (l : List UInt8) : ByteArray := ⟨l.toArray⟩
theorem bs_size (l : List UInt8) : (bs l).size = l.length := by show l.toArray.size = _; simp
theorem bs_data (l : List UInt8) : (bs l).data.toList = l := rfl
theorem bs_of (x : ByteArray) : bs x.data.toList = x := by
  apply ByteArray.ext; show x.data.toList.toArray = x.data; simp
theorem bs_inj {a b : List UInt8} (h : bs a = bs b) : a = b := by
  have := congrArg (fun x : ByteArray => x.data.toList) h
  exact this
theorem bs_iff {a b : List UInt8} : bs a = bs b ↔ a = b := ⟨bs_inj, fun h => by rw [h]⟩
theorem bs_dec (a b : List UInt8) : decide (bs a = bs b) = decide (a = b) := by
  rw [decide_eq_decide]; exact bs_iff
theorem bs_get {l : List UInt8} {i : Nat} (h : i < l.length) : (bs l).get! i = l[i] := by
  rw [← get_bang (by rw [bs_size]; exact h)]; rfl
theorem bs_getD {l : List UInt8} {i : Nat} (h : i < l.length) : (bs l).get! i = l.getD i 0 := by
  rw [bs_get h, List.getD_eq_getElem?_getD, List.getElem?_eq_getElem h]; rfl
theorem bs_sub (l : List UInt8) (a b : Nat) : (bs l).extract a b = bs ((l.take b).drop a) := by
  apply ByteArray.ext
  rw [ByteArray.data_extract]
  show l.toArray.extract a b = ((l.take b).drop a).toArray
  rw [List.extract_toArray, List.extract_eq_take_drop, List.drop_take]
theorem bs_append (a b : List UInt8) : bs a ++ bs b = bs (a ++ b) := by
  apply ByteArray.ext
  rw [ByteArray.data_append]
  show a.toArray ++ b.toArray = (a ++ b).toArray
  simp
section
variable {P : Program} {s : List Ch} {xo yo : Operand} {ty : Nat} {q : TV → Prop}
theorem qEqL {a b : List UInt8} (h : q (.v (.bool (decide (a = b))))) : NeedQ P s (do eqGuard .eql ty xo yo (.string (bs a)) (.string (bs b)); binOp .eql ty (.string (bs a)) (.string (bs b))) q := qEqS (by rw [bs_dec]; exact h)
theorem qNeL {a b : List UInt8} (h : q (.v (.bool (decide (a ≠ b))))) : NeedQ P s (do eqGuard .neq ty xo yo (.string (bs a)) (.string (bs b)); binOp .neq ty (.string (bs a)) (.string (bs b))) q := qNeS (by
  have : decide (bs a ≠ bs b) = decide (a ≠ b) := by rw [decide_eq_decide]; exact not_congr bs_iff
  rw [this]; exact h)
theorem qIdxL {X : Ctx} (hX : X.Good) {S : Nat} {ti : TI} (ht : tget X.tt S = some ti) (hk : ti.k = .str) {k : IntKind} {i : Int} {l : List UInt8} (n : Nat) (hi : i = n) (hn : n < l.length) (h : q (.v (.int .u8 ((l.getD n 0).toNat : Int)))) : NeedQ X.P s (Instr.index S (.string (bs l)) (.int k i)) q :=
  qIdxS hX ht hk n hi (by rw [bs_size]; exact hn) (by rw [bs_getD hn]; exact h)
/-- part of a string -/
theorem qSub {X : Ctx} (hX : X.Good) {S : Nat} {ti : TI} (ht : tget X.tt S = some ti) (hk : ti.k = .str) {l : List UInt8} (a b : Nat) {lo hi : Option Value}
    (hlo : (lo = none ∧ a = 0) ∨ ∃ k x, lo = some (.int k x) ∧ x = (a : Int)) (hhi : (hi = none ∧ b = l.length) ∨ ∃ k x, hi = some (.int k x) ∧ x = (b : Int)) (hab : a ≤ b) (hb : b ≤ l.length)
    (h : q (.v (.string (bs ((l.take b).drop a))))) : NeedQ X.P s (Instr.sliceAt S (.string (bs l)) lo hi none) q := by
  refine ⟨_, fun w _ => ?_, h⟩
  have hu : X.P.underlying S = some .string := by
    have := (Good.und hX ht).2
    obtain ⟨tk, _, _, _⟩ := ti
    dsimp only at hk
    subst hk
    exact this
  have hsz := bs_size l
  rcases hlo with ⟨rfl, rfl⟩ | ⟨k, x, rfl, rfl⟩ <;> rcases hhi with ⟨rfl, rfl⟩ | ⟨k', x', rfl, rfl⟩ <;>
    simp [Instr.sliceAt, Instr.slice, run_underlying hu, Instr.sliceBounds, run_sliceBound, hsz, hab, hb, bs_sub]
/-- concatenation -/
theorem qAdd {a b : List UInt8} (hn : a.length + b.length < 9223372036854775808) (h : q (.v (.string (bs (a ++ b))))) : NeedQ P s (binOp .add ty (.string (bs a)) (.string (bs b))) q := by
  refine ⟨_, fun w _ => ?_, h⟩
  show (Op.stringOp .add (bs a) (bs b)).run P w = _
  unfold Op.stringOp
  simp only []
  rw [if_neg (by rw [bs_size, bs_size]; show ¬ ((a.length + b.length : Nat) : Int) > 9223372036854775807; omega)]
  rw [bs_append]
  rfl
end
end Go.Dw
namespace Go.Proofs.YtoholjdojdmbkaaGreatDoor
/-- the sign and the digits of a text -/
def sgnB (l : Byts) : Bool := decide (l.getD 0 0 = 45) && decide (0 < l.length)
def sgnD (l : Byts) : Byts := if sgnB l = true then l.drop 1 else l
/-- the error of integer.Parse -/
def parE (l : Byts) : Int :=
  if 65536 < l.length then 5 else if sgnD l = [] ∨ (sgnD l).any (fun c => !isDig c) = true then 14 else if (sgnD l).getD 0 0 = 48 ∧ (1 < (sgnD l).length ∨ sgnB l = true) then 3 else 0
/-- a text at its first stroke -/
def cutF (l : Byts) : Byts × Byts × Bool := if runN (fun c => !decide (c = 47)) l < l.length then (l.take (runN (fun c => !decide (c = 47)) l), l.drop (runN (fun c => !decide (c = 47)) l + 1), true) else (l, [], false)
def digF (l : Byts) : Bool := decide (l ≠ []) && l.all isDig
/-- the error of rational's read -/
def reaE (most : Nat) (l : Byts) : Int :=
  if most < l.length then 5
  else if (!digF (sgnD (cutF l).1) || (cutF l).2.2 && !digF (cutF l).2.1) = true then 14
  else if ((cutF l).2.2 && (cutF l).2.1.all fun c => decide (c = 48)) = true then 19
  else if parE (cutF l).1 ≠ 0 then 3
  else if (cutF l).2.2 = false then 0
  else if parE (cutF l).2.1 ≠ 0 ∨ dgV (cutF l).2.1 = 1 ∨ Nat.gcd (dgV (sgnD (cutF l).1)) (dgV (cutF l).2.1) ≠ 1 then 3 else 0
theorem dig_not {c : UInt8} (h : isDig c = true) : c ≠ 45 ∧ c ≠ 47 := by
  unfold isDig at h
  rw [Bool.and_eq_true, decide_eq_true_eq, decide_eq_true_eq] at h
  refine ⟨fun e => ?_, fun e => ?_⟩ <;> · subst e; revert h; decide
theorem all_get {l : Byts} {f : UInt8 → Bool} (h : l.all f = true) {i : Nat} (hi : i < l.length) : f (l.getD i 0) = true := by
  rw [List.getD_eq_getElem?_getD, List.getElem?_eq_getElem hi]
  exact List.all_eq_true.1 h _ (List.getElem_mem hi)
theorem sgn_dig {l : Byts} (h : l.all isDig = true) : sgnB l = false ∧ sgnD l = l := by
  have e : sgnB l = false := by
    unfold sgnB
    rcases Nat.eq_zero_or_pos l.length with g | g
    · rw [decide_eq_false (show ¬ 0 < l.length by omega), Bool.and_false]
    · rw [decide_eq_false (dig_not (all_get h g)).1, Bool.false_and]
  exact ⟨e, by unfold sgnD; rw [e]; rfl⟩
theorem any_not {l : Byts} (h : l.all isDig = true) : l.any (fun c => !isDig c) = false := by
  rw [List.any_eq_false]
  intro c hc
  rw [List.all_eq_true.1 h c hc]; decide
theorem parE_dig {l : Byts} (h : l.all isDig = true) (h0 : 0 < l.length) (h1 : l.length ≤ 65536) : parE l = 0 ↔ canD l = true := by
  obtain ⟨e1, e2⟩ := sgn_dig h
  unfold parE canD
  rw [e1, e2, any_not h, if_neg (by omega), if_neg (by intro g; rcases g with g | g; · rw [g] at h0; cases h0
                                                       · cases g)]
  rw [decide_eq_true h0]
  by_cases c : l.getD 0 0 = 48 ∧ (1 < l.length ∨ false = true)
  · rw [if_pos c]
    have : 1 < l.length := by rcases c.2 with g | g; · exact g
                              · cases g
    rw [decide_eq_true c.1, decide_eq_false (show ¬ l.length = 1 by omega)]
    simp
  · rw [if_neg c]
    simp only [true_iff]
    by_cases g : l.length = 1
    · rw [decide_eq_true g]; rfl
    · have : ¬ l.getD 0 0 = 48 := fun e => c ⟨e, .inl (by omega)⟩
      rw [decide_eq_false this]; simp
theorem run_all {f : UInt8 → Bool} : ∀ {l : Byts}, l.all f = true → runN f l = l.length
  | [], _ => rfl
  | c :: l, h => by
    rw [List.all_cons, Bool.and_eq_true] at h
    have := run_all h.2
    unfold runN at *
    rw [List.takeWhile_cons, if_pos h.1, List.length_cons, List.length_cons, this]
theorem run_app {f : UInt8 → Bool} : ∀ {a : Byts} {c : UInt8} {b : Byts}, a.all f = true → f c = false → runN f (a ++ c :: b) = a.length
  | [], c, b, _, h => by
    unfold runN
    rw [List.nil_append, List.takeWhile_cons, h]; rfl
  | d :: a, c, b, h, h2 => by
    rw [List.all_cons, Bool.and_eq_true] at h
    have := run_app (b := b) h.2 h2
    unfold runN at *
    rw [List.cons_append, List.takeWhile_cons, if_pos h.1, List.length_cons, List.length_cons, this]
theorem dig_stroke {l : Byts} (h : l.all isDig = true) : l.all (fun c => !decide (c = 47)) = true := by
  rw [List.all_eq_true] at h ⊢
  intro c hc
  rw [decide_eq_false (dig_not (h c hc)).2]; rfl
theorem cut_none {l : Byts} (h : l.all isDig = true) : cutF l = (l, [], false) := by
  unfold cutF
  rw [run_all (dig_stroke h), if_neg (Nat.lt_irrefl _)]
theorem cut_some {a b : Byts} (h : a.all isDig = true) : cutF (a ++ 47 :: b) = (a, b, true) := by
  unfold cutF
  rw [run_app (dig_stroke h) (by decide), if_pos (by simp)]
  simp
theorem dgV_zero {l : Byts} (h : l.all isDig = true) : dgV l = 0 ↔ (l.all fun c => decide (c = 48)) = true := by
  unfold dgV
  rw [dec_zero]
  rw [List.all_eq_true] at h ⊢
  constructor
  · intro g c hc
    have h1 := g (c.toNat - 48) (List.mem_map.2 ⟨c, hc, rfl⟩)
    have h2 := h c hc
    unfold isDig at h2
    rw [Bool.and_eq_true, decide_eq_true_eq, decide_eq_true_eq] at h2
    rw [decide_eq_true_eq]
    apply UInt8.toNat_inj.1
    show c.toNat = 48
    omega
  · intro g d hd
    obtain ⟨c, hc, rfl⟩ := List.mem_map.1 hd
    have := g c hc
    rw [decide_eq_true_eq] at this
    subst this; rfl
/-- digits only -/
theorem reaE_int {l : Byts} (h : l.all isDig = true) (h0 : 0 < l.length) (h1 : l.length ≤ 400) : reaE 400 l = 0 ↔ canN l l.length = true := by
  obtain ⟨_, e2⟩ := sgn_dig h
  have hd : digF l = true := by unfold digF; rw [h, decide_eq_true (by intro e; rw [e] at h0; cases h0)]; rfl
  have hp := parE_dig h h0 (by omega)
  unfold reaE canN
  rw [cut_none h]
  dsimp only
  rw [if_neg (by omega), e2, hd, if_neg (by decide), if_neg (by simp), if_pos rfl]
  rw [if_pos rfl]
  by_cases c : parE l = 0
  · rw [if_neg (by omega)]; exact ⟨fun _ => hp.1 c, fun _ => rfl⟩
  · rw [if_pos c]; exact ⟨fun g => (by cases g), fun g => absurd (hp.2 g) c⟩
/-- digits, a stroke, digits -/
theorem reaE_rat {a b : Byts} (ha : a.all isDig = true) (hb : b.all isDig = true) (h0 : 0 < a.length) (h1 : 0 < b.length) (h2 : (a ++ 47 :: b).length ≤ 400) : reaE 400 (a ++ 47 :: b) = 0 ↔ canN (a ++ 47 :: b) a.length = true := by
  obtain ⟨_, ea⟩ := sgn_dig ha
  have hl : (a ++ 47 :: b).length = a.length + (b.length + 1) := by simp
  have hda : digF a = true := by unfold digF; rw [ha, decide_eq_true (by intro e; rw [e] at h0; cases h0)]; rfl
  have hdb : digF b = true := by unfold digF; rw [hb, decide_eq_true (by intro e; rw [e] at h1; cases h1)]; rfl
  have hpa := parE_dig ha h0 (by omega)
  have hpb := parE_dig hb h1 (by omega)
  have hz := dgV_zero hb
  unfold reaE canN
  rw [cut_some ha]
  dsimp only
  rw [if_neg (by omega), ea, hda, hdb, if_neg (by decide), if_neg (show ¬ (a ++ 47 :: b).length = a.length by omega)]
  have et : (a ++ 47 :: b).take a.length = a := by simp
  have ed : (a ++ 47 :: b).drop (a.length + 1) = b := by
    rw [List.drop_append]; simp
  rw [et, ed, Bool.true_and]
  by_cases c1 : (b.all fun c => decide (c = 48)) = true
  · rw [if_pos c1, hz.2 c1]
    constructor
    · intro g; cases g
    · intro g; simp at g
  · rw [if_neg c1]
    have hnz : dgV b ≠ 0 := fun e => c1 (hz.1 e)
    by_cases c2 : parE a = 0
    · rw [if_neg (show ¬ parE a ≠ 0 from fun g => g c2), if_neg (show ¬ (true = false) from nofun), hpa.1 c2, Bool.true_and]
      by_cases c3 : parE b = 0
      · rw [hpb.1 c3, Bool.true_and]
        by_cases c4 : dgV b = 1
        · rw [if_pos (.inr (.inl c4)), decide_eq_false (show ¬ 1 < dgV b by omega)]; simp
        · rw [decide_eq_true (show 1 < dgV b by omega), Bool.true_and]
          by_cases c5 : Nat.gcd (dgV a) (dgV b) = 1
          · rw [if_neg (by rintro (g | g | g); · exact g c3
                           · exact c4 g
                           · exact g c5), decide_eq_true c5]; simp
          · rw [if_pos (.inr (.inr c5)), decide_eq_false c5]; simp
      · rw [if_pos (.inl c3)]
        have : canD b = false := by cases e : canD b with | false => rfl | true => exact absurd (hpb.2 e) c3
        rw [this]; simp
    · rw [if_pos c2]
      have : canD a = false := by cases e : canD a with | false => rfl | true => exact absurd (hpa.2 e) c2
      rw [this]; simp
end Go.Proofs.YtoholjdojdmbkaaGreatDoor
namespace Go.Proofs.YtoholjdojdmbkaaGreatDoor
open Go Go.RowKit Go.Dw
/-- a magnitude in a chunk -/
def IsMag (h : Hp) (v : Value) (m : Nat) : Prop := ∃ a n c L, v = .slice a n c ∧ Sl (encF fW) 1 h a n c L ∧ Can L m
theorem IsMag.mono {h k : Hp} {v : Value} {m : Nat} (hl : h.le k) : IsMag h v m → IsMag k v m
  | ⟨a, n, c, L, h1, h2, h3⟩ => ⟨a, n, c, L, h1, h2.mono (encF_mono _) hl, h3⟩
theorem get_dropE {a b : List Nat} {i : Nat} (hi : i < a.length) (hi2 : i < b.length) (h : a.drop (i + 1) = b.drop (i + 1)) (e : a[i] = b[i]) : a.drop i = b.drop i := by
  rw [List.drop_eq_getElem_cons hi, List.drop_eq_getElem_cons hi2, h, e]
theorem iorder_spec {La Lb : List Nat} {a1 a2 : Option Addr} {n1 c1 n2 c2 x y : Nat} (w : World) (ha : Sl (encF fW) 1 (Hp.whole w) a1 n1 c1 La) (hb : Sl (encF fW) 1 (Hp.whole w) a2 n2 c2 Lb) (hca : Can La x) (hcb : Can Lb y) (h2 : Lb.length < 1000000) :
    CallsE Tryz.prog 101 #[.slice a1 n1 c1, .slice a2 n2 c2] w (RetV w (.int .i64 (cmpN x y))) := by
  have hn1 := ha.len
  have hn2 := hb.len
  refine enter (X := cx 41) (cxg _) (args := [.slice a1 n1 c1, .slice a2 n2 c2]) [.tmp 4] Tryz.func101 rfl rfl rfl rfl rfl ?_
  refine bsplitd (fun h3 => ?_) (fun h3 => ?_)
  · refine bsplitd (fun h4 => ?_) (fun h4 => ?_)
    · have := hca.shorter hcb (by omega)
      exact ⟨[], ⟨by unfold cmpN; rw [if_pos this], rfl⟩, fun w' h => h.pick [0] rfl rfl⟩
    · have := hcb.shorter hca (by omega)
      exact ⟨[], ⟨by unfold cmpN; rw [if_neg (by omega), if_pos this], rfl⟩, fun w' h => h.pick [0] rfl rfl⟩
  · refine nw (by omega) (by omega) ?_
    refine NeedL.mk Int (fun g => [(0, .v (.slice a1 n1 c1)), (1, .v (.slice a2 n2 c2)), (5, .v (.int .i64 g))]) (fun _ => [.hp (Hp.whole w)])
      (fun g => -1 ≤ g ∧ g < n1 ∧ La.drop (g + 1).toNat = Lb.drop (g + 1).toNat) (fun g => (g + 1).toNat) (n1 - 1) ⟨by omega, by omega, by
        rw [List.drop_eq_nil_of_le (by omega), List.drop_eq_nil_of_le (by omega)]⟩ (Ent.mk (fun _ _ h => h) rfl rfl) ?_
    rintro g ⟨hg1, hg2, hg3⟩
    dsimp only at *
    refine bsplitd (fun h5 => ?_) (fun h5 => ?_)
    · obtain ⟨k, hk⟩ : ∃ k : Nat, g = k := ⟨g.toNat, by omega⟩
      subst hk
      have hk1 : k < La.length := by omega
      have hk2 : k < Lb.length := by omega
      have hg3 : La.drop (k + 1) = Lb.drop (k + 1) := hg3
      refine NeedD.by_order (cxg _) (.take 0 <| .take 1 <| .take 2 <| .take 3 <| .take 4 <| .take 5 <| .take 6 <| .take 7 <| .take 8 <| .done) (by kernel_rfl) ?_
      refine idx (cxg _) (e := 88) rfl ha k rfl hk1 (fun b9 o9 cs hcs hR hcell4 => ?_)
      subst hR
      refine ld1 (cxg _) (i := 0) rfl (hcell4 0 _ rfl) rfl ?_
      refine idx (cxg _) (e := 88) rfl hb k rfl hk2 (fun b9 o9 cs hcs hR hcell5 => ?_)
      subst hR
      refine ld1 (cxg _) (i := 0) rfl (hcell5 0 _ rfl) rfl ?_
      refine bsplitd (fun h6 => ?_) (fun h6 => ?_)
      · refine NeedD.by_order (cxg _) (.take 0 <| .take 1 <| .take 2 <| .take 3 <| .take 4 <| .take 5 <| .take 6 <| .take 7 <| .take 8 <| .done) (by kernel_rfl) ?_
        refine idx (cxg _) (e := 88) rfl ha k rfl hk1 (fun b9 o9 cs hcs hR hcell7 => ?_)
        subst hR
        refine ld1 (cxg _) (i := 0) rfl (hcell7 0 _ rfl) rfl ?_
        refine idx (cxg _) (e := 88) rfl hb k rfl hk2 (fun b9 o9 cs hcs hR hcell8 => ?_)
        subst hR
        refine ld1 (cxg _) (i := 0) rfl (hcell8 0 _ rfl) rfl ?_
        refine bsplitd (fun h9 => ?_) (fun h9 => ?_)
        · have := ord_top (by omega) hca.l hk1 hk2 hg3 (by omega)
          rw [hca.v, hcb.v] at this
          exact ⟨[], ⟨by unfold cmpN; rw [if_pos this], rfl⟩, fun w' h => h.pick [0] rfl rfl⟩
        · have := ord_top (by omega) hcb.l hk2 hk1 hg3.symm (by omega)
          rw [hca.v, hcb.v] at this
          exact ⟨[], ⟨by unfold cmpN; rw [if_neg (by omega), if_pos this], rfl⟩, fun w' h => h.pick [0] rfl rfl⟩
      · refine nw (by omega) (by omega) ?_
        exact ⟨(k : Int) - 1, ⟨by omega, by omega, by
          have e : ((k : Int) - 1 + 1).toNat = k := by omega
          rw [e]
          exact get_dropE hk1 hk2 hg3 (by omega)⟩, by omega, Ent.mk (fun _ _ h => h) rfl rfl⟩
    · have e : (g + 1).toNat = 0 := by omega
      rw [e, List.drop_zero, List.drop_zero] at hg3
      have : x = y := by rw [← hca.v, ← hcb.v, hg3]
      exact ⟨[], ⟨by unfold cmpN; rw [if_neg (by omega), if_neg (by omega)], rfl⟩, fun w' h => h.pick [0] rfl rfl⟩
/-- an integer: sign and magnitude -/
def intZ (neg : Bool) (m : Nat) : Int := if neg = true then -(m : Int) else m
theorem qNeB {s : List Ch} {xo yo : Operand} {x y : Bool} {q : TV → Prop} (h : q (.v (.bool (!(x == y))))) :
    NeedQ Tryz.prog s (do eqGuard .neq 4 xo yo (.bool x) (.bool y); binOp .neq 4 (.bool x) (.bool y)) q := by
  refine ⟨_, fun w _ => ?_, h⟩
  have hun : (underlying 4).run Tryz.prog w = .ok .bool w := by simp [underlying, Tryz.underlying4]
  have hg : (eqGuard .neq 4 xo yo (.bool x) (.bool y)).run Tryz.prog w = .ok () w := by simp [eqGuard]
  rw [Sem.run_bind, hg]
  simp only [Result.andThen_ok, binOp, Sem.run_bind]
  unfold Op.equal Op.maxDepth
  rw [show (10000 : Nat) = 9999 + 1 from rfl]
  unfold Op.equalIn
  simp only [Sem.run_bind, hun, Result.andThen_ok]
  rfl
theorem icompare_spec {La Lb : List Nat} {g1 g2 : Bool} {a1 a2 : Option Addr} {n1 c1 n2 c2 x y : Nat} (w : World) (ha : Sl (encF fW) 1 (Hp.whole w) a1 n1 c1 La) (hb : Sl (encF fW) 1 (Hp.whole w) a2 n2 c2 Lb) (hca : Can La x) (hcb : Can Lb y) (h1 : La.length < 1000000) (h2 : Lb.length < 1000000) (p1 : g1 = true → 0 < x) (p2 : g2 = true → 0 < y) :
    CallsE Tryz.prog 117 #[intV g1 a1 n1 c1, intV g2 a2 n2 c2] w (RetV w (.int .i64 (ordZ (intZ g1 x) (intZ g2 y)))) := by
  refine enter (X := cx 26) (cxg _) (args := [intV g1 a1 n1 c1, intV g2 a2 n2 c2]) [.tmp 4] Tryz.func117 rfl rfl rfl rfl rfl ?_
  intro b2
  intro b3
  refine qNeB ?_
  refine bsplit (fun h3 => ?_) (fun h3 => ?_)
  · refine bsplit (fun h4 => ?_) (fun h4 => ?_)
    · subst h4
      have : g2 = false := by cases g2 with | false => rfl | true => cases h3
      subst this
      have := p1 rfl
      exact ⟨[], ⟨by unfold ordZ; rw [if_pos (show intZ true x < intZ false y from show -(x : Int) < (y : Int) by omega)], rfl⟩, fun w' h => h.pick [0] rfl rfl⟩
    · subst h4
      have : g2 = true := by cases g2 with | true => rfl | false => cases h3
      subst this
      have := p2 rfl
      exact ⟨[], ⟨by unfold ordZ; rw [if_neg (show ¬ intZ false x < intZ true y from show ¬ (x : Int) < -(y : Int) by omega), if_pos (show intZ true y < intZ false x from show -(y : Int) < (x : Int) by omega)], rfl⟩, fun w' h => h.pick [0] rfl rfl⟩
  · have hg : g1 = g2 := by cases g1 <;> cases g2 <;> first | rfl | cases h3
    subst hg
    refine bsplit (fun h4 => ?_) (fun h4 => ?_)
    · refine callV _ (fun w' hm => iorder_spec w' (hb.mono (encF_mono _) (hm 0 _ rfl)) (ha.mono (encF_mono _) (hm 0 _ rfl)) hcb hca h1) ?_
      exact ⟨[], ⟨by
        subst h4
        unfold cmpN ordZ intZ
        congr 1
        simp only [if_true]
        rcases Nat.lt_trichotomy x y with g | g | g
        · rw [if_neg (by omega), if_pos (by omega), if_neg (by omega), if_pos (by omega)]
        · rw [if_neg (by omega), if_neg (by omega), if_neg (by omega), if_neg (by omega)]
        · rw [if_pos (by omega), if_pos (by omega)], rfl⟩, fun w' h => h.pick [0] rfl rfl⟩
    · refine callV _ (fun w' hm => iorder_spec w' (ha.mono (encF_mono _) (hm 0 _ rfl)) (hb.mono (encF_mono _) (hm 0 _ rfl)) hca hcb h2) ?_
      exact ⟨[], ⟨by
        subst h4
        unfold cmpN ordZ intZ
        congr 1
        simp only [Bool.false_eq_true, if_false]
        rcases Nat.lt_trichotomy x y with g | g | g
        · rw [if_pos (by omega), if_pos (by omega)]
        · rw [if_neg (by omega), if_neg (by omega), if_neg (by omega), if_neg (by omega)]
        · rw [if_neg (by omega), if_pos (by omega), if_neg (by omega), if_pos (by omega)], rfl⟩, fun w' h => h.pick [0] rfl rfl⟩
end Go.Proofs.YtoholjdojdmbkaaGreatDoor
namespace Go.Proofs.YtoholjdojdmbkaaGreatDoor
open Go Go.RowKit Go.Dw
/-- the two digits of a number below 2^64 -/
theorem can_two {u : Nat} (h : u < 18446744073709551616) : LimL [u % 4294967296, u / 4294967296 % 4294967296] ∧ valL [u % 4294967296, u / 4294967296 % 4294967296] = u := by
  refine ⟨fun d hd => ?_, ?_⟩
  · simp only [List.mem_cons, List.not_mem_nil, or_false] at hd
    unfold Bs
    rcases hd with rfl | rfl <;> omega
  · simp only [valL]
    unfold Bs
    omega
theorem trN_zero {L : List Nat} (hL : LimL L) : trN L = 0 ↔ valL L = 0 := by
  have h := can_trim hL
  rw [h.zero, ← trL_len]
  exact ⟨List.eq_nil_of_length_eq_zero, fun e => by rw [e]; rfl⟩
/-- what is left of digits when the zeros at the end go -/
theorem slTrim {h : Hp} {L : List Nat} {a : Option Addr} {n c : Nat} (hs : Sl (encF fW) 1 h a n c L) : Sl (encF fW) 1 h a (trN L) c (trL L) := hs.upto (by rw [hs.len]; exact trN_le L)
theorem from_spec (x : Int) (hx1 : -9223372036854775808 ≤ x) (hx2 : x ≤ 9223372036854775807) (w : World) :
    CallsE Tryz.prog 25 #[.int .i64 x] w (Ret w fun v cs => ∃ g a n c L, cs = [.hp g] ∧ v = intV (decide (x < 0)) a n c ∧ Sl (encF fW) 1 g a n c L ∧ Can L x.natAbs) := by
  refine enter (X := cx 19) (cxg _) (args := [.int .i64 x]) [.cell 2 54] Tryz.func25 rfl rfl rfl rfl rfl ?_
  intro b2
  refine nwMod64 (y := x % 18446744073709551616) rfl ?_
  refine bsplitd (fun h1 => ?_) (fun h1 => ?_)
  · refine nwMod64 (y := (x.natAbs : Nat)) (by omega) ?_
    refine nwLow x.natAbs rfl ?_
    refine qShr64 x.natAbs 32 rfl rfl (by decide) ?_
    refine nwLow (x.natAbs / 2 ^ 32) rfl ?_
    intro b17
    obtain ⟨hL, hV⟩ := can_two (u := x.natAbs) (by omega)
    refine callV _ (fun w' hm => signed_spec _ w' (Sl.box (f := fW) (fun _ => rfl) (by decide) (hm 2 _ rfl) [x.natAbs % 4294967296, x.natAbs / 4294967296 % 4294967296] rfl rfl (by simp)) (by simp)) ?_
    have ho := OwnO.sl (f := fW) (sz := 1) (fun _ => rfl) (by decide) (OwnO.ofBox (sz := 1) (f := fW) (b := b17) (T := 88) (fun _ => rfl) [x.natAbs % 4294967296, x.natAbs / 4294967296 % 4294967296] rfl rfl (by simp))
    refine ⟨_, ⟨_, _, _, _, _, rfl, ?_, slTrim ho, by have := can_trim hL; rw [hV] at this; exact this⟩, fun w' h => (h.pick [0, 2] rfl rfl).boxHp⟩
    have : 0 < trN [x.natAbs % 4294967296, x.natAbs / 4294967296 % 4294967296] := Nat.pos_of_ne_zero fun e => by
      rw [trN_zero hL, hV] at e; omega
    rw [decide_eq_true this, Bool.and_true]; rfl
  · refine nwLow x.natAbs (by omega) ?_
    refine qShr64 x.natAbs 32 (by omega) rfl (by decide) ?_
    refine nwLow (x.natAbs / 2 ^ 32) rfl ?_
    intro b17
    obtain ⟨hL, hV⟩ := can_two (u := x.natAbs) (by omega)
    refine callV _ (fun w' hm => signed_spec _ w' (Sl.box (f := fW) (fun _ => rfl) (by decide) (hm 2 _ rfl) [x.natAbs % 4294967296, x.natAbs / 4294967296 % 4294967296] rfl rfl (by simp)) (by simp)) ?_
    have ho := OwnO.sl (f := fW) (sz := 1) (fun _ => rfl) (by decide) (OwnO.ofBox (sz := 1) (f := fW) (b := b17) (T := 88) (fun _ => rfl) [x.natAbs % 4294967296, x.natAbs / 4294967296 % 4294967296] rfl rfl (by simp))
    refine ⟨_, ⟨_, _, _, _, _, rfl, ?_, slTrim ho, by have := can_trim hL; rw [hV] at this; exact this⟩, fun w' h => (h.pick [0, 2] rfl rfl).boxHp⟩
    rw [decide_eq_false h1, Bool.false_and]; rfl
def raiL' (by' : Nat) (L : List Nat) (plus : Nat) : List Nat := (scaL by' L plus).1 ++ [(scaL by' L plus).2]
theorem raiL'_val {by' plus : Nat} (hb : by' < Bs) (hp : plus < Bs) {L : List Nat} (hL : LimL L) : valL (raiL' by' L plus) = valL L * by' + plus ∧ LimL (raiL' by' L plus) ∧ (raiL' by' L plus).length = L.length + 1 := by
  obtain ⟨h1, h2, h3, h4⟩ := scaL_val hb L plus hL hp
  refine ⟨?_, fun d hd => ?_, by unfold raiL'; rw [List.length_append, h2]; rfl⟩
  · unfold raiL'
    rw [valL_snoc, h2]; omega
  · rcases List.mem_append.1 hd with g | g
    · exact h3 d g
    · rw [List.mem_singleton] at g; rw [g]; exact h4
theorem scale_spec {L : List Nat} {a : Option Addr} {n c m : Nat} (w : World) (by' plus : Nat) (hs : Sl (encF fW) 1 (Hp.whole w) a n c L) (hc : Can L m) (hl : L.length < 900000) (hb : by' < Bs) (hp : plus < Bs) :
    CallsE Tryz.prog 92 #[.slice a n c, .int .u32 by', .int .u32 plus] w (Ret w fun v cs => ∃ g a' n' c' L', cs = [.hp g] ∧ v = .slice a' n' c' ∧ Sl (encF fW) 1 g a' n' c' L' ∧ Can L' (m * by' + plus) ∧ L'.length ≤ L.length + 1) := by
  have hn := hs.len
  refine enter (X := cx 47) (cxg _) (args := [.slice a n c, .int .u32 by', .int .u32 plus]) [.tmp 6] Tryz.func92 rfl rfl rfl rfl rfl ?_
  refine nw (by omega) (by omega) ?_
  refine mkO (f := fW) (cxg _) (e := 88) rfl (L.length + 1) 0 rfl (by omega) (by omega) rfl (by omega) fun o14 ho14n ho14 => ?_
  refine nw64Eq plus rfl (by unfold Bs at hp; omega) ?_
  refine NeedL.mk (Nat × Dw.Os) (fun g => [(0, .v (.slice a n c)), (1, .v (.int .u32 by')), (7, .v (g.2.v)), (8, .v (.int .u64 ((scaL by' (L.take g.1) plus).2 : Nat))), (17, .v (.slice a n c)), (18, .v (.int .i64 n)), (19, .v (.int .i64 g.1))]) (fun g => [.hp (Hp.whole w), .hp g.2.h])
    (fun g => g.1 ≤ L.length ∧ OwnO fW 88 1 g.2 ((scaL by' (L.take g.1) plus).1 ++ (List.replicate (L.length - g.1 + 1) 0 ++ []))) (fun g => L.length - g.1) (0, o14) ⟨Nat.zero_le _, by simpa [scaL] using ho14⟩ (Ent.mk (fun _ _ h => h) rfl rfl) ?_
  rintro ⟨i, o⟩ ⟨hi, ho⟩
  dsimp only at *
  have hv := scaL_val hb (L.take i) plus (fun d hd => hc.l d (List.mem_of_mem_take hd)) hp
  have hlen := scaL_len by' (L.take i) plus
  rw [List.length_take, Nat.min_eq_left hi] at hlen
  refine bsplitd (fun h1 => ?_) (fun h1 => ?_)
  · have hi' : i < L.length := by omega
    have hd := hc.l L[i] (List.getElem_mem hi')
    have hdb : L[i] * by' ≤ (Bs - 1) * (Bs - 1) := Nat.mul_le_mul (by omega) (by omega)
    have hc4 := hv.2.2.2
    have hsn := scaL_snoc by' (L.take i) L[i] plus
    rw [← take_snoc L i hi'] at hsn
    refine idx (cxg _) (e := 88) rfl hs i rfl hi' (fun b9 o9 cs hcs hR hcell2 => ?_)
    subst hR
    refine ld1 (cxg _) (i := 0) rfl (hcell2 0 _ rfl) rfl ?_
    refine nw64Eq L[i] rfl (by unfold Bs at hd; omega) ?_
    refine nw64Eq by' rfl (by unfold Bs at hb; omega) ?_
    refine nw64Eq (L[i] * by') (by simp) (by unfold Bs at hdb; omega) ?_
    refine nw64Eq ((scaL by' (L.take i) plus).2 + L[i] * by') (by simp) (by unfold Bs at hdb hc4; omega) ?_
    refine nwLow ((scaL by' (L.take i) plus).2 + L[i] * by') rfl ?_
    refine oidx1 (cxg _) (e := 88) rfl rfl ho i rfl (by simp; omega) fun b3 hb3 => ?_
    refine osto (g := fun x : Nat => .int .u32 x) (fun _ => rfl) (cxg _) (i := 1) rfl hb3 ho (by simp; omega) rfl rfl (((scaL by' (L.take i) plus).2 + L[i] * by') % Bs) rfl rfl rfl fun o2 f1 f2 f3 ho2 => ?_
    refine qShr64 ((scaL by' (L.take i) plus).2 + L[i] * by') 32 rfl rfl (by decide) ?_
    refine nw (by omega) (by omega) ?_
    refine ⟨(i + 1, o2), ⟨by omega, ?_⟩, by dsimp only; omega, Ent.mk (fun _ _ h => h) ?_ rfl⟩
    · have e := set_rep (scaL by' (L.take i) plus).1 0 (((scaL by' (L.take i) plus).2 + L[i] * by') % Bs) (L.length - (i + 1) + 1) []
      rw [hlen] at e
      rw [show L.length - i + 1 = L.length - (i + 1) + 1 + 1 by omega] at ho2
      rw [e] at ho2
      rw [hsn]
      exact ho2
    · dsimp only [Os.v]
      rw [hsn, f1, f2, f3]
      rfl
  · have hi' : i = L.length := by omega
    subst hi'
    rw [List.take_length] at hv hlen ho ⊢
    have hc4 := hv.2.2.2
    refine nwLow ((scaL by' L plus).2) rfl ?_
    refine oidx1 (cxg _) (e := 88) rfl rfl ho L.length (by omega) (by simp; omega) fun b3 hb3 => ?_
    refine osto (g := fun x : Nat => .int .u32 x) (fun _ => rfl) (cxg _) (i := 1) rfl hb3 ho (by simp; omega) rfl rfl ((scaL by' L plus).2 % Bs) rfl rfl rfl fun o2 f1 f2 f3 ho2 => ?_
    have e : ((scaL by' L plus).1 ++ (List.replicate (L.length - L.length + 1) 0 ++ [])).set L.length ((scaL by' L plus).2 % Bs) = raiL' by' L plus := by
      have := set_rep (scaL by' L plus).1 0 ((scaL by' L plus).2 % Bs) 0 []
      rw [hlen] at this
      rw [Nat.sub_self, this, Nat.mod_eq_of_lt hc4]
      simp [raiL']
    rw [e] at ho2
    have hr := raiL'_val hb hp hc.l
    have ho3 := OwnO.sl (f := fW) (sz := 1) (fun _ => rfl) (by decide) ho2
    rw [f1, f2, f3] at ho3
    refine callV _ (fun w' hm => trim_spec w' (ho3.mono (encF_mono _) (hm 1 _ rfl)) (by rw [hr.2.2]; omega)) ?_
    exact ⟨[.hp o2.h], ⟨_, _, _, _, _, rfl, rfl, slTrim ho3, by have := can_trim hr.2.1; rw [hr.1, hc.v] at this; exact this, by have := trN_le (raiL' by' L plus); have := hr.2.2; rw [trL_len]; omega⟩, fun w' h => h.pick [0, 1] rfl rfl⟩
theorem short_spec {L : List Nat} {a : Option Addr} {n c : Nat} (w : World) (by' : Nat) (hs : Sl (encF fW) 1 (Hp.whole w) a n c L) (hc : LimL L) (hl : L.length < 900000) (h0 : 0 < by') (hb : by' < Bs) :
    CallsE Tryz.prog 53 #[.slice a n c, .int .u32 by'] w (Ret w fun v cs => ∃ g a' n' c' L', cs = [.hp g] ∧ v = .tuple #[.slice a' n' c', .int .u32 ((valL L % by' : Nat) : Int)] ∧ Sl (encF fW) 1 g a' n' c' L' ∧ Can L' (valL L / by')) := by
  have hn := hs.len
  have hb' : by' < 4294967296 := hb
  refine enter (X := cx 43) (cxg _) (args := [.slice a n c, .int .u32 by']) [.tmp 4, .tmp 5] Tryz.func53 rfl rfl rfl rfl rfl ?_
  refine mkO (f := fW) (cxg _) (e := 88) rfl L.length 0 rfl (by omega) (by omega) rfl (by omega) fun o11 ho11n ho11 => ?_
  refine nw (by omega) (by omega) ?_
  refine NeedL.mk (Int × Dw.Os) (fun g => [(0, .v (.slice a n c)), (1, .v (.int .u32 by')), (6, .v (g.2.v)), (7, .v (.int .u64 ((shoL by' (L.drop (g.1 + 1).toNat)).2 : Nat))), (8, .v (.int .i64 g.1))]) (fun g => [.hp (Hp.whole w), .hp g.2.h])
    (fun g => -1 ≤ g.1 ∧ g.1 < n ∧ OwnO fW 88 1 g.2 (List.replicate (g.1 + 1).toNat 0 ++ (shoL by' (L.drop (g.1 + 1).toNat)).1)) (fun g => (g.1 + 1).toNat) ((n : Int) - 1, o11) ⟨by dsimp only; omega, by dsimp only; omega, by
      have e : ((n : Int) - 1 + 1).toNat = L.length := by omega
      dsimp only
      rw [e, List.drop_length]
      simpa [shoL] using ho11⟩ (Ent.mk (fun _ _ h => h) (by
        have e : ((n : Int) - 1 + 1).toNat = L.length := by omega
        dsimp only
        rw [e, List.drop_length]
        rfl) rfl) ?_
  rintro ⟨i, o⟩ ⟨hi1, hi2, ho⟩
  dsimp only at *
  refine bsplitd (fun h1 => ?_) (fun h1 => ?_)
  · obtain ⟨k, hk⟩ : ∃ k : Nat, i = k := ⟨i.toNat, by omega⟩
    subst hk
    have hk1 : k < L.length := by omega
    have ek : ((k : Int) + 1).toNat = k + 1 := by omega
    rw [ek] at ho ⊢
    have hd := hc L[k] (List.getElem_mem hk1)
    have hsv := shoL_val h0 hb (L.drop (k + 1)) fun d hd => hc d (List.mem_of_mem_drop hd)
    have hsd := shoL_drop by' L k hk1
    have hsl := shoL_len by' (L.drop (k + 1))
    generalize hS : shoL by' (L.drop (k + 1)) = S at *
    have hr := hsv.2.2.2
    have hdl : (L.drop (k + 1)).length = L.length - (k + 1) := List.length_drop
    refine qShl64 S.2 32 rfl rfl (by decide) ?_
    have e1 : S.2 * 2 ^ 32 % 18446744073709551616 = 2 ^ 32 * S.2 := by
      rw [Nat.mul_comm]; exact Nat.mod_eq_of_lt (by omega)
    rw [e1]
    refine idx (cxg _) (e := 88) rfl hs k rfl hk1 (fun b9 o9 cs hcs hR hcell2 => ?_)
    subst hR
    refine ld1 (cxg _) (i := 0) rfl (hcell2 0 _ rfl) rfl ?_
    refine nw64Eq L[k] rfl (by unfold Bs at hd; omega) ?_
    refine qOr64 (2 ^ 32 * S.2) L[k] rfl rfl (by omega) (by unfold Bs at hd; omega) ?_
    rw [or_low (k := 32) rfl hd]
    have e2 : 2 ^ 32 * S.2 + L[k] = S.2 * Bs + L[k] := by rw [Nat.mul_comm]; rfl
    rw [e2]
    have hB : S.2 * Bs + L[k] < 18446744073709551616 := by unfold Bs at hd ⊢; omega
    refine nw64Eq by' rfl (by omega) ?_
    refine qQuo64 (S.2 * Bs + L[k]) by' rfl rfl h0 hB ?_
    refine nwLow ((S.2 * Bs + L[k]) / by') rfl ?_
    have hq : (S.2 * Bs + L[k]) / by' < Bs := by
      rw [Nat.div_lt_iff_lt_mul h0]
      have : (S.2 + 1) * Bs ≤ by' * Bs := Nat.mul_le_mul_right _ (by omega)
      rw [Nat.add_mul, Nat.one_mul, Nat.mul_comm by' Bs] at this
      omega
    have e3 : (S.2 * Bs + L[k]) / by' % 4294967296 = (S.2 * Bs + L[k]) / by' := Nat.mod_eq_of_lt hq
    rw [e3]
    have hkl : k < (List.replicate (k + 1) 0 ++ S.1).length := by simp; omega
    refine oidx1 (cxg _) (e := 88) rfl rfl ho k rfl hkl fun b3 hb3 => ?_
    refine osto (g := fun x : Nat => .int .u32 x) (fun _ => rfl) (cxg _) (i := 1) rfl hb3 ho hkl rfl rfl ((S.2 * Bs + L[k]) / by') rfl rfl rfl fun o2 f1 f2 f3 ho2 => ?_
    refine nw64Eq by' rfl (by omega) ?_
    refine qRem64 (S.2 * Bs + L[k]) by' rfl rfl h0 hB ?_
    refine nw (by omega) (by omega) ?_
    have e4 : ((k : Int) - 1 + 1).toNat = k := by omega
    refine ⟨((k : Int) - 1, o2), ⟨by dsimp only; omega, by dsimp only; omega, ?_⟩, by dsimp only; omega, Ent.mk (fun _ _ h => h) ?_ rfl⟩
    · dsimp only
      rw [e4, hsd]
      rw [List.replicate_succ', List.append_assoc] at ho2
      have := set_mid (List.replicate k 0) 0 ((S.2 * Bs + L[k]) / by') S.1
      rw [List.length_replicate] at this
      rw [List.singleton_append, this, List.append_assoc] at ho2
      exact ho2
    · dsimp only [Os.v]
      rw [e4, hsd, f1, f2, f3]
      rfl
  · have e : (i + 1).toNat = 0 := by omega
    rw [e, List.drop_zero] at ho ⊢
    have hsv := shoL_val h0 hb L hc
    have hr := hsv.2.2.2
    have ho3 := OwnO.sl (f := fW) (sz := 1) (fun _ => rfl) (by decide) ho
    rw [List.replicate_zero, List.nil_append] at ho3
    refine callV _ (fun w' hm => trim_spec w' (ho3.mono (encF_mono _) (hm 1 _ rfl)) (by rw [hsv.2.1]; omega)) ?_
    refine nwLow (shoL by' L).2 rfl ?_
    have hdm : valL (shoL by' L).1 = valL L / by' ∧ (shoL by' L).2 = valL L % by' := by
      have h := hsv.1
      rw [Nat.mul_comm] at h
      constructor
      · rw [← h, Nat.mul_add_div h0, Nat.div_eq_of_lt hr, Nat.add_zero]
      · rw [← h, Nat.mul_add_mod, Nat.mod_eq_of_lt hr]
    have hcan := can_trim hsv.2.2.1
    rw [hdm.1] at hcan
    exact ⟨[.hp o.h], ⟨_, _, _, _, _, rfl, by rw [Nat.mod_eq_of_lt (by omega), hdm.2], slTrim ho3, hcan⟩, fun w' h => h.pick [0, 1] rfl rfl⟩
end Go.Proofs.YtoholjdojdmbkaaGreatDoor
namespace Go.Dw
open Go Go.RowKit
theorem nwMod8 {x y : Int} {q : Int → Prop} (h : x % 256 = y) (hq : q y) : NeedW .u8 x q := ⟨y, by rw [IntKind.wrap_u8', h], hq⟩
section
variable {P : Program} {s : List Ch} {ty : Nat} {q : TV → Prop}
theorem qShr32 (a n : Nat) {x y : Int} (hx : x = a) (hy : y = n) (hn : n < 32) (h : q (.v (.int .u32 ((a / 2 ^ n : Nat) : Int)))) : NeedQ P s (binOp .shr ty (.int .u32 x) (.int .u64 y)) q := by
  subst hx hy
  exact ⟨_, fun w _ => shr_run32 a n .u64 hn w, h⟩
/-- a table that says how many bits a byte has -/
def tabOk (x : ByteArray) : Bool := Nat.beq x.size 256 && (List.range 256).all fun n => Nat.blt n (2 ^ (x.get! n).toNat) && Nat.ble (x.get! n).toNat 8 && (Nat.beq n 0 || Nat.blt 0 (x.get! n).toNat)
theorem qTab {x : ByteArray} {X : Ctx} (hx : tabOk x = true) (hX : X.Good) {S : Nat} {ti : TI} (ht : tget X.tt S = some ti) (hk : ti.k = .str) {k : IntKind} {i : Int} (n : Nat) (hi : i = n) (hn : n < 256) (h : ∀ r : Nat, n < 2 ^ r → r ≤ 8 → (0 < n → 0 < r) → q (.v (.int .u8 (r : Int)))) :
    NeedQ X.P s (Instr.index S (.string x) (.int k i)) q := by
  unfold tabOk at hx
  rw [Bool.and_eq_true] at hx
  have hs := Nat.eq_of_beq_eq_true hx.1
  have ha := List.all_eq_true.1 hx.2 n (List.mem_range.2 hn)
  rw [Bool.and_eq_true, Bool.and_eq_true, Bool.or_eq_true] at ha
  obtain ⟨⟨h1, h2⟩, h3⟩ := ha
  refine qIdxS hX ht hk n hi (by omega) (h _ ?_ (Nat.le_of_ble_eq_true h2) fun h0 => ?_)
  · exact Nat.le_of_ble_eq_true h1
  · rcases h3 with g | g
    · have := Nat.eq_of_beq_eq_true g; omega
    · exact Nat.le_of_ble_eq_true g
end
end Go.Dw
namespace Go.Proofs.YtoholjdojdmbkaaGreatDoor
open Go Go.RowKit Go.Dw
theorem pow_up {n x r k : Nat} (h : x / 2 ^ k < 2 ^ r) (hn : n = k + r) : x < 2 ^ n := by
  rw [Nat.div_lt_iff_lt_mul (Nat.two_pow_pos k), Nat.mul_comm, ← Nat.pow_add] at h
  rw [hn]; exact h
theorem len32_spec (x : Nat) (hx : x < 4294967296) (w : World) : CallsE Tryz.prog 127 #[.int .u32 x] w (Ret w fun v cs => cs = [] ∧ ∃ r : Nat, v = .int .i64 r ∧ x < 2 ^ r ∧ r ≤ 32 ∧ (0 < x → 0 < r)) := by
  refine enter (X := cx 19) (cxg _) (args := [.int .u32 x]) [.tmp 2] Tryz.func127 rfl rfl rfl rfl rfl ?_
  refine bsplitd (fun h1 => ?_) (fun h1 => ?_)
  · refine qShr32 (ty := 88) x 16 rfl rfl (by decide) ?_
    refine bsplitd (fun h2 => ?_) (fun h2 => ?_)
    · refine qShr32 (ty := 88) (x / 2 ^ 16) 8 rfl rfl (by decide) ?_
      refine nw (by omega) (by omega) ?_
      refine nwMod8 (y := ((x / 2 ^ 16 / 2 ^ 8 : Nat) : Int)) (by omega) ?_
      refine qTab (by kernel_rfl) (cxg _) rfl rfl (x / 2 ^ 16 / 2 ^ 8) rfl (by omega) fun r r1 r2 r3 => ?_
      refine nw (by omega) (by omega) ?_
      refine nw (by omega) (by omega) ?_
      exact ⟨[], ⟨rfl, 24 + r, by simp, pow_up (pow_up r1 rfl) (by omega), by omega, fun _ => by omega⟩, fun w' h => h.pick [0] rfl rfl⟩
    · refine nwMod8 (y := ((x / 2 ^ 16 : Nat) : Int)) (by omega) ?_
      refine qTab (by kernel_rfl) (cxg _) rfl rfl (x / 2 ^ 16) rfl (by omega) fun r r1 r2 r3 => ?_
      refine nw (by omega) (by omega) ?_
      refine nw (by omega) (by omega) ?_
      exact ⟨[], ⟨rfl, 16 + r, by simp, pow_up r1 rfl, by omega, fun _ => by omega⟩, fun w' h => h.pick [0] rfl rfl⟩
  · refine bsplitd (fun h2 => ?_) (fun h2 => ?_)
    · refine qShr32 (ty := 88) x 8 rfl rfl (by decide) ?_
      refine nw (by omega) (by omega) ?_
      refine nwMod8 (y := ((x / 2 ^ 8 : Nat) : Int)) (by omega) ?_
      refine qTab (by kernel_rfl) (cxg _) rfl rfl (x / 2 ^ 8) rfl (by omega) fun r r1 r2 r3 => ?_
      refine nw (by omega) (by omega) ?_
      refine nw (by omega) (by omega) ?_
      exact ⟨[], ⟨rfl, 8 + r, by simp, pow_up r1 rfl, by omega, fun _ => by omega⟩, fun w' h => h.pick [0] rfl rfl⟩
    · refine nwMod8 (y := ((x : Nat) : Int)) (by omega) ?_
      refine qTab (by kernel_rfl) (cxg _) rfl rfl x rfl (by omega) fun r r1 r2 r3 => ?_
      refine nw (by omega) (by omega) ?_
      refine nw (by omega) (by omega) ?_
      exact ⟨[], ⟨rfl, r, by simp, r1, by omega, r3⟩, fun w' h => h.pick [0] rfl rfl⟩
theorem lead32_spec (x : Nat) (hx : x < 4294967296) (h0 : 0 < x) (w : World) : CallsE Tryz.prog 102 #[.int .u32 x] w (Ret w fun v cs => cs = [] ∧ ∃ r : Nat, v = .int .i64 r ∧ x * 2 ^ r < Bs ∧ r < 32) := by
  refine enter (X := cx 6) (cxg _) (args := [.int .u32 x]) [.tmp 2] Tryz.func102 rfl rfl rfl rfl rfl ?_
  refine call (fun w' hm => len32_spec x hx w') ?_
  rintro _ _ ⟨rfl, r, rfl, r1, r2, r3⟩
  have := r3 h0
  refine nw (by omega) (by omega) ?_
  refine ⟨[], ⟨rfl, 32 - r, by congr 1; omega, ?_, by omega⟩, fun w' h => h⟩
  have e : 2 ^ r * 2 ^ (32 - r) = Bs := by rw [← Nat.pow_add, show r + (32 - r) = 32 by omega]; rfl
  rw [← e]
  exact Nat.mul_lt_mul_of_pos_right r1 (Nat.two_pow_pos _)
theorem cloneW_spec {a : Option Addr} {n c : Nat} {L : List Nat} (w : World) (hL : Sl (encF fW) 1 (Hp.whole w) a n c L) (hn : n < 1000000000) :
    CallsE Tryz.prog 128 #[.slice a n c] w (Ret w fun v cs => ∃ o, v = o.v ∧ cs = [.hp o.h] ∧ OwnO fW 88 1 o L) := by
  have hlen := hL.len
  refine enter (X := cx 8) (cxg _) (args := [.slice a n c]) [.tmp 2] Tryz.func128 rfl rfl rfl rfl rfl ?_
  refine qNilEq rfl ?_
  refine bsplit (fun h => ?_) (fun h => ?_)
  · refine ⟨[.hp Hp.emp], ⟨Os.nil, rfl, rfl, ?_⟩, fun w' h => h.emp⟩
    have : L = [] := by
      cases a with
      | none => cases L with
        | nil => rfl
        | cons x r => obtain ⟨b, off, cs, h1, _⟩ := hL.cells 0 (by simp); cases h1
      | some _ => simp at h
    rw [this]; exact OwnO.nil _ _ _
  · intro b
    refine app0 (cxg _) (e := 88) rfl (fun _ => rfl) (fun _ => rfl) (k := 0) rfl hL rfl (by omega) fun o' ho' => ?_
    exact ⟨[.hp o'.h], ⟨o', rfl, rfl, ho'⟩, fun w' h => h.pick [0, 2] rfl rfl⟩
/-- the two parts of 2^32 -/
theorem pow_parts {k : Nat} (hk : k < 32) : 2 ^ k * 2 ^ (32 - k) = Bs ∧ 2 ^ k < Bs := by
  have e : 2 ^ k * 2 ^ (32 - k) = Bs := by rw [← Nat.pow_add, show k + (32 - k) = 32 by omega]; rfl
  exact ⟨e, Nat.lt_of_lt_of_le (Nat.pow_lt_pow_right (by decide) hk) (by decide)⟩
theorem raised_spec {L : List Nat} {a : Option Addr} {n c : Nat} (w : World) (k : Nat) (hs : Sl (encF fW) 1 (Hp.whole w) a n c L) (hc : LimL L) (hl : L.length < 900000) (hk : k < 32) :
    CallsE Tryz.prog 103 #[.slice a n c, .int .i64 k] w (Ret w fun v cs => ∃ o : Dw.Os, cs = [.hp o.h] ∧ v = o.v ∧ OwnO fW 88 1 o (raiL (2 ^ k) L)) := by
  have hn := hs.len
  obtain ⟨hps, hpB⟩ := pow_parts hk
  have hp0 := Nat.two_pow_pos k
  generalize hp : 2 ^ k = p at *
  refine enter (X := cx 40) (cxg _) (args := [.slice a n c, .int .i64 k]) [.tmp 4] Tryz.func103 rfl rfl rfl rfl rfl ?_
  refine nw (by omega) (by omega) ?_
  refine mkO (f := fW) (cxg _) (e := 88) rfl (L.length + 1) 0 rfl (by omega) (by omega) rfl (by omega) fun o11 ho11n ho11 => ?_
  refine NeedL.mk (Nat × Dw.Os) (fun g => [(1, .v (.int .i64 k)), (5, .v (g.2.v)), (12, .v (.slice a n c)), (13, .v (.int .i64 n)), (14, .v (.int .i64 g.1))]) (fun g => [.hp (Hp.whole w), .hp g.2.h])
    (fun g => g.1 ≤ L.length ∧ OwnO fW 88 1 g.2 (raiL p (L.take g.1) ++ (List.replicate (L.length - g.1) 0 ++ []))) (fun g => L.length - g.1) (0, o11) ⟨Nat.zero_le _, by
      have e : raiL p (L.take 0) ++ (List.replicate (L.length - 0) 0 ++ []) = List.replicate (L.length + 1) 0 := by simp [raiL, scaL, List.replicate_succ]
      rw [e]; exact ho11⟩ (Ent.mk (fun _ _ h => h) rfl rfl) ?_
  rintro ⟨i, o⟩ ⟨hi, ho⟩
  dsimp only at *
  have hlen := scaL_len p (L.take i) 0
  rw [List.length_take, Nat.min_eq_left hi] at hlen
  refine bsplitd (fun h1 => ?_) (fun h1 => ?_)
  · have hi' : i < L.length := by omega
    have hd := hc L[i] (List.getElem_mem hi')
    have hcar := scaL_carry hps (L.take i) 0 (fun d hd => hc d (List.mem_of_mem_take hd)) hp0
    have hsn := scaL_snoc p (L.take i) L[i] 0
    rw [← take_snoc L i hi'] at hsn
    generalize hS : scaL p (L.take i) 0 = S at *
    have hdp : L[i] * p ≤ (Bs - 1) * (Bs - 1) := Nat.mul_le_mul (by omega) (by omega)
    obtain ⟨q1, q2⟩ := shl_digit (d := L[i]) hp.symm hps hcar
    refine idx (cxg _) (e := 88) rfl hs i rfl hi' (fun b9 o9 cs hcs hR hcell2 => ?_)
    subst hR
    refine ld1 (cxg _) (i := 0) rfl (hcell2 0 _ rfl) rfl ?_
    have e0 : raiL p (L.take i) ++ (List.replicate (L.length - i) 0 ++ []) = S.1 ++ S.2 :: (List.replicate (L.length - (i + 1) + 1) 0 ++ []) := by
      unfold raiL
      rw [hS, show L.length - i = L.length - (i + 1) + 1 by omega]
      simp
    rw [e0] at ho
    have hSc : S.2 < 4294967296 := Nat.lt_trans hcar hpB
    have hdB : L[i] < 4294967296 := hd
    have hil : i < (S.1 ++ S.2 :: (List.replicate (L.length - (i + 1) + 1) 0 ++ [])).length := by simp; omega
    have hgi : (S.1 ++ S.2 :: (List.replicate (L.length - (i + 1) + 1) 0 ++ []))[i] = S.2 := by
      have := get_mid S.1 S.2 (List.replicate (L.length - (i + 1) + 1) 0 ++ []) (by simp)
      simpa only [hlen] using this
    refine NeedD.by_order (cxg _) (.take 0 <| .take 1 <| .take 2 <| .take 3 <| .take 4 <| .take 5 <| .take 6 <| .take 7 <| .take 8 <| .run 9 <| .done) (by kernel_rfl) ?_
    refine oidx1 (cxg _) (e := 88) rfl rfl ho i rfl hil fun b3 hb3 => ?_
    refine old (g := fun x : Nat => .int .u32 x) (fun _ => rfl) (cxg _) (i := 1) rfl hb3 ho hil rfl ?_
    rw [hgi]
    refine qShlG32 L[i] k rfl rfl hk ?_
    rw [hp]
    refine qOr32 S.2 (L[i] * p % 4294967296) rfl rfl hSc (Nat.mod_lt _ (by decide)) ?_
    have q1' : S.2 ||| L[i] * p % 4294967296 = (S.2 + L[i] * p) % Bs := q1
    rw [q1']
    refine oidx1 (cxg _) (e := 88) rfl rfl ho i rfl hil fun b4 hb4 => ?_
    refine osto (g := fun x : Nat => .int .u32 x) (fun _ => rfl) (cxg _) (i := 1) rfl hb4 ho hil rfl rfl ((S.2 + L[i] * p) % Bs) rfl rfl rfl fun o2 f1 f2 f3 ho2 => ?_
    have e1 := set_mid S.1 S.2 ((S.2 + L[i] * p) % Bs) (List.replicate (L.length - (i + 1) + 1) 0 ++ [])
    rw [hlen] at e1
    rw [e1] at ho2
    refine nw (by omega) (by omega) ?_
    refine nw64Eq L[i] rfl (by omega) ?_
    refine qShlG64 L[i] k rfl rfl (by omega) ?_
    rw [hp]
    have e2 : L[i] * p % 18446744073709551616 = L[i] * p := Nat.mod_eq_of_lt (by unfold Bs at hdp; omega)
    rw [e2]
    refine qShr64 (L[i] * p) 32 rfl rfl (by decide) ?_
    refine nwLow (L[i] * p / 2 ^ 32) rfl ?_
    have e3 : L[i] * p / 2 ^ 32 % 4294967296 = (S.2 + L[i] * p) / Bs := by
      rw [show L[i] * p / 2 ^ 32 = (S.2 + L[i] * p) / Bs from q2]
      refine Nat.mod_eq_of_lt ?_
      rw [← q2]
      show L[i] * p / Bs < Bs
      rw [Nat.div_lt_iff_lt_mul (by decide)]
      unfold Bs at hdp ⊢; omega
    rw [e3]
    have ho2' : OwnO fW 88 1 o2 ((S.1 ++ [(S.2 + L[i] * p) % Bs]) ++ (List.replicate (L.length - (i + 1) + 1) 0 ++ [])) := ho2
    have hl2 : (S.1 ++ [(S.2 + L[i] * p) % Bs]).length = i + 1 := by simp [hlen]
    have hil2 : i + 1 < ((S.1 ++ [(S.2 + L[i] * p) % Bs]) ++ (List.replicate (L.length - (i + 1) + 1) 0 ++ [])).length := by rw [List.length_append, hl2]; simp
    have ev2 : o2.v = o.v := by unfold Os.v; rw [f1, f2, f3]
    rw [← ev2]
    refine oidx1 (cxg _) (e := 88) rfl rfl ho2' (i + 1) (by omega) hil2 fun b5 hb5 => ?_
    refine osto (g := fun x : Nat => .int .u32 x) (fun _ => rfl) (cxg _) (i := 1) rfl hb5 ho2' hil2 rfl rfl ((S.2 + L[i] * p) / Bs) rfl rfl rfl fun o3 g1 g2 g3 ho3 => ?_
    have e4 := set_rep (S.1 ++ [(S.2 + L[i] * p) % Bs]) 0 ((S.2 + L[i] * p) / Bs) (L.length - (i + 1)) []
    rw [hl2] at e4
    rw [e4] at ho3
    refine nw (by omega) (by omega) ?_
    exact ⟨(i + 1, o3), ⟨by omega, by unfold raiL; rw [hsn]; exact ho3⟩, by dsimp only; omega, Ent.mk (fun _ _ h => h) (by dsimp only [Os.v]; rw [g1, g2, g3]; rfl) rfl⟩
  · have hi' : i = L.length := by omega
    subst hi'
    rw [List.take_length, Nat.sub_self, List.replicate_zero, List.nil_append, List.append_nil] at ho
    exact ⟨[.hp o.h], ⟨o, rfl, rfl, ho⟩, fun w' h => h.pick [0, 1] rfl rfl⟩
theorem lowered_spec {L : List Nat} {a : Option Addr} {n c : Nat} (w : World) (k : Nat) (hs : Sl (encF fW) 1 (Hp.whole w) a n c L) (hc : LimL L) (hl : L.length < 900000) (hk : k < 32) :
    CallsE Tryz.prog 105 #[.slice a n c, .int .i64 k] w (Ret w fun v cs => ∃ g a' n' c' L', cs = [.hp g] ∧ v = .slice a' n' c' ∧ Sl (encF fW) 1 g a' n' c' L' ∧ Can L' (valL L / 2 ^ k)) := by
  have hn := hs.len
  obtain ⟨hps, hpB⟩ := pow_parts hk
  have hp0 := Nat.two_pow_pos k
  generalize hp : 2 ^ k = p at *
  have hs0 : 2 ^ (32 - k) = 2 ^ (32 - k) := rfl
  generalize hsd : 2 ^ (32 - k) = sd at hps hs0
  refine enter (X := cx 45) (cxg _) (args := [.slice a n c, .int .i64 k]) [.tmp 4] Tryz.func105 rfl rfl rfl rfl rfl ?_
  refine call (fun w' hm => cloneW_spec w' (hs.mono (encF_mono _) (hm 0 _ rfl)) (by omega)) ?_
  rintro _ _ ⟨o0, rfl, rfl, ho0⟩
  have hlo := lowL_len p sd L
  have hon : o0.n = L.length := ho0.len
  refine NeedL.mk (Nat × Dw.Os) (fun g => [(0, .v (.slice a n c)), (1, .v (.int .i64 k)), (5, .v (g.2.v)), (10, .v (.int .i64 (o0.n : Nat))), (11, .v (.int .i64 g.1))]) (fun g => [.hp (Hp.whole w), .hp g.2.h])
    (fun g => g.1 ≤ L.length ∧ OwnO fW 88 1 g.2 ((lowL p sd L).take g.1 ++ L.drop g.1)) (fun g => L.length - g.1) (0, o0) ⟨Nat.zero_le _, ho0⟩ (Ent.mk (fun _ _ h => h) rfl rfl) ?_
  rintro ⟨i, o⟩ ⟨hi, ho⟩
  dsimp only at *
  refine bsplitd (fun h1 => ?_) (fun h1 => ?_)
  · have hi' : i < L.length := by omega
    have hd := hc L[i] (List.getElem_mem hi')
    have hdB : L[i] < 4294967296 := hd
    have htk : ((lowL p sd L).take i).length = i := by rw [List.length_take]; omega
    rw [List.drop_eq_getElem_cons hi'] at ho
    have hil : i < ((lowL p sd L).take i ++ L[i] :: L.drop (i + 1)).length := by simp; omega
    have hgi : ((lowL p sd L).take i ++ L[i] :: L.drop (i + 1))[i] = L[i] := by
      have := get_mid ((lowL p sd L).take i) L[i] (L.drop (i + 1)) (by rw [htk]; exact hil)
      simpa only [htk] using this
    have hlg := lowL_get (p := p) (s := sd) hi' (by omega)
    have htk2 := take_snoc (lowL p sd L) i (by omega)
    rw [hlg] at htk2
    refine oidx1 (cxg _) (e := 88) rfl rfl ho i rfl hil fun b3 hb3 => ?_
    refine old (g := fun x : Nat => .int .u32 x) (fun _ => rfl) (cxg _) (i := 1) rfl hb3 ho hil rfl ?_
    rw [hgi]
    refine qShrG32 L[i] k rfl rfl hk ?_
    rw [hp]
    refine oidx1 (cxg _) (e := 88) rfl rfl ho i rfl hil fun b4 hb4 => ?_
    refine osto (g := fun x : Nat => .int .u32 x) (fun _ => rfl) (cxg _) (i := 1) rfl hb4 ho hil rfl rfl (L[i] / p) rfl rfl rfl fun o2 f1 f2 f3 ho2 => ?_
    have e1 := set_mid ((lowL p sd L).take i) L[i] (L[i] / p) (L.drop (i + 1))
    rw [htk] at e1
    rw [e1] at ho2
    have ev2 : o2.v = o.v := by unfold Os.v; rw [f1, f2, f3]
    refine nw (by omega) (by omega) ?_
    refine bsplitd (fun h4 => ?_) (fun h4 => ?_)
    · have hi2 : i + 1 < L.length := by omega
      have he := hc L[i + 1] (List.getElem_mem hi2)
      have heB : L[i + 1] < 4294967296 := he
      have hgd : L.getD (i + 1) 0 = L[i + 1] := by rw [List.getD_eq_getElem?_getD, List.getElem?_eq_getElem hi2]; rfl
      rw [hgd] at htk2
      have ho2' : OwnO fW 88 1 o2 ((lowL p sd L).take i ++ (L[i] / p) :: L.drop (i + 1)) := by
        have : ((lowL p sd L).take i ++ [L[i] / p]) ++ L.drop (i + 1) = (lowL p sd L).take i ++ (L[i] / p) :: L.drop (i + 1) := by simp
        rw [this] at ho2; exact ho2
      have hil2 : i < ((lowL p sd L).take i ++ (L[i] / p) :: L.drop (i + 1)).length := by simp; omega
      have hgi2 : ((lowL p sd L).take i ++ (L[i] / p) :: L.drop (i + 1))[i] = L[i] / p := by
        have := get_mid ((lowL p sd L).take i) (L[i] / p) (L.drop (i + 1)) (by rw [htk]; exact hil2)
        simpa only [htk] using this
      refine NeedD.by_order (cxg _) (.take 0 <| .take 1 <| .take 2 <| .take 3 <| .take 4 <| .take 5 <| .take 6 <| .take 7 <| .take 8 <| .take 9 <| .take 10 <| .take 11 <| .take 12 <| .take 13 <| .take 14 <| .take 15 <| .run 16 <| .done) (by kernel_rfl) ?_
      rw [← ev2]
      refine oidx1 (cxg _) (e := 88) rfl rfl ho2' i rfl hil2 fun b5 hb5 => ?_
      refine old (g := fun x : Nat => .int .u32 x) (fun _ => rfl) (cxg _) (i := 1) rfl hb5 ho2' hil2 rfl ?_
      rw [hgi2]
      refine nw (by omega) (by omega) ?_
      refine idx (cxg _) (e := 88) rfl hs (i + 1) (by omega) hi2 (fun b9 o9 cs hcs hR hcell6 => ?_)
      subst hR
      refine ld1 (cxg _) (i := 0) rfl (hcell6 0 _ rfl) rfl ?_
      refine nw64Eq L[i + 1] rfl (by omega) ?_
      refine qShl64 L[i + 1] 32 rfl rfl (by decide) ?_
      have e2 : L[i + 1] * 2 ^ 32 % 18446744073709551616 = L[i + 1] * 2 ^ 32 := Nat.mod_eq_of_lt (by omega)
      rw [e2]
      refine qShrG64 (L[i + 1] * 2 ^ 32) k rfl rfl (by omega) ?_
      rw [hp]
      have e3 : L[i + 1] * 2 ^ 32 / p = L[i + 1] * sd := by
        rw [show (2 : Nat) ^ 32 = p * sd from hps.symm, Nat.mul_left_comm, Nat.mul_div_cancel_left _ hp0]
      rw [e3]
      refine nwLow (L[i + 1] * sd) rfl ?_
      have hdp : L[i] / p < 4294967296 := Nat.lt_of_le_of_lt (Nat.div_le_self _ _) hdB
      refine qOr32 (L[i] / p) (L[i + 1] * sd % 4294967296) rfl rfl hdp (Nat.mod_lt _ (by decide)) ?_
      have e4 : (L[i] / p) ||| (L[i + 1] * sd % 4294967296) = L[i] / p + L[i + 1] * sd % Bs := shr_digit (k := 32 - k) hsd.symm hps hp0 hd
      rw [e4]
      refine oidx1 (cxg _) (e := 88) rfl rfl ho2' i rfl hil2 fun b6 hb6 => ?_
      refine osto (g := fun x : Nat => .int .u32 x) (fun _ => rfl) (cxg _) (i := 1) rfl hb6 ho2' hil2 rfl rfl (L[i] / p + L[i + 1] * sd % Bs) rfl rfl rfl fun o3 g1 g2 g3 ho3 => ?_
      have e5 := set_mid ((lowL p sd L).take i) (L[i] / p) (L[i] / p + L[i + 1] * sd % Bs) (L.drop (i + 1))
      rw [htk] at e5
      rw [e5, ← htk2] at ho3
      refine nw (by omega) (by omega) ?_
      exact ⟨(i + 1, o3), ⟨by omega, ho3⟩, by dsimp only; omega, Ent.mk (fun _ _ h => h) (by dsimp only [Os.v]; rw [g1, g2, g3]; rfl) rfl⟩
    · have hgd : L.getD (i + 1) 0 = 0 := by rw [List.getD_eq_getElem?_getD, List.getElem?_eq_none (by omega)]; rfl
      simp only [hgd, Nat.zero_mul, Nat.zero_mod, Nat.add_zero] at htk2
      rw [← htk2] at ho2
      refine nw (by omega) (by omega) ?_
      exact ⟨(i + 1, o2), ⟨by omega, ho2⟩, by dsimp only; omega, Ent.mk (fun _ _ h => h) (by dsimp only [Os.v]; rw [f1, f2, f3]; rfl) rfl⟩
  · have hi' : i = L.length := by omega
    subst hi'
    rw [List.take_of_length_le (by omega), List.drop_length, List.append_nil] at ho
    have ho3 := OwnO.sl (f := fW) (sz := 1) (fun _ => rfl) (by decide) ho
    have hlim := lowL_lim hps hp0 hc
    refine callV _ (fun w' hm => trim_spec w' (ho3.mono (encF_mono _) (hm 1 _ rfl)) (by omega)) ?_
    have hcan := can_trim hlim
    rw [lowL_val hps hp0 L hc] at hcan
    exact ⟨[.hp o.h], ⟨_, _, _, _, _, rfl, rfl, slTrim ho3, hcan⟩, fun w' h => h.pick [0, 1] rfl rfl⟩
end Go.Proofs.YtoholjdojdmbkaaGreatDoor
