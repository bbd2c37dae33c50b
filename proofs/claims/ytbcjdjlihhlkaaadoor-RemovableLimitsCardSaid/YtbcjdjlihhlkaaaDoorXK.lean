/- Parts of one proof, joined: S1, S2, S3, S4. No condition of its own. -/
import Derived.Test.YtbcjdjlihhlkaaaDoorXD
import Derived.Test.YtbcjdjlihhlkaaaDoorXB
import Derived.Laws.Bits64b
import Derived.Lib.TrailingZeros
import Derived.Test.YtbcjdjlihhlkaaaDoorXI
import Derived.Test.YtbcjdjlihhlkaaaDoorXJ
namespace Go.Dw
open Go Go.RowKit
theorem wrapU (z : Int) : IntKind.u64.wrap z = z % 18446744073709551616 := IntKind.wrap_u64 z
theorem nwM {x y : Int} {q : Int → Prop} (h : x % 18446744073709551616 = y) (hq : q y) : NeedW .u64 x q := ⟨y, by rw [wrapU, h], hq⟩
section
variable {P : Program} {s : List Ch} {xo yo : Operand} {ty : Nat} {q : TV → Prop}
theorem qAndU (a b : Nat) {x y : Int} (hx : x = a) (hy : y = b) (ha : a < 18446744073709551616) (hb : b < 18446744073709551616) (h : q (.v (.int .u64 ((a &&& b : Nat) : Int)))) : NeedQ P s (binOp .and ty (.int .u64 x) (.int .u64 y)) q := by
  subst hx hy
  exact ⟨_, fun w _ => by show Result.ok (Value.int .u64 (bits .and .u64 a b)) w = _; rw [bits_and_u64_nat a b ha hb], h⟩
theorem qOrU (a b : Nat) {x y : Int} (hx : x = a) (hy : y = b) (ha : a < 18446744073709551616) (hb : b < 18446744073709551616) (h : q (.v (.int .u64 ((a ||| b : Nat) : Int)))) : NeedQ P s (binOp .or ty (.int .u64 x) (.int .u64 y)) q := by
  subst hx hy
  exact ⟨_, fun w _ => by show Result.ok (Value.int .u64 (bits .or .u64 a b)) w = _; rw [bits_or_u64_nat a b ha hb], h⟩
theorem bits_andNot_u64 (a b : Nat) (ha : a < 18446744073709551616) (hb : b < 18446744073709551616) : bits .andNot .u64 (a : Int) (b : Int) = ((a &&& (18446744073709551615 - b) : Nat) : Int) := by
  have hx : a &&& (18446744073709551615 - b) < 2 ^ 64 := Nat.and_lt_two_pow _ (by omega)
  have h1 : (BitVec.ofInt 64 (a : Int)).toNat = a := by
    rw [BitVec.ofInt_natCast, BitVec.toNat_ofNat]; exact Nat.mod_eq_of_lt (by omega)
  have h2 : (BitVec.ofInt 64 (b : Int)).toNat = b := by
    rw [BitVec.ofInt_natCast, BitVec.toNat_ofNat]; exact Nat.mod_eq_of_lt (by omega)
  show IntKind.u64.wrap ((BitVec.ofInt 64 (a : Int) &&& ~~~ BitVec.ofInt 64 (b : Int)).toNat : Int) = _
  rw [BitVec.toNat_and, BitVec.toNat_not, h1, h2, wrapU]
  have : (2 : Nat) ^ 64 - 1 - b = 18446744073709551615 - b := rfl
  rw [this]
  omega
theorem qAndNotU (a b : Nat) {x y : Int} (hx : x = a) (hy : y = b) (ha : a < 18446744073709551616) (hb : b < 18446744073709551616) (h : q (.v (.int .u64 ((a &&& (18446744073709551615 - b) : Nat) : Int)))) : NeedQ P s (binOp .andNot ty (.int .u64 x) (.int .u64 y)) q := by
  subst hx hy
  exact ⟨_, fun w _ => by show Result.ok (Value.int .u64 (bits .andNot .u64 a b)) w = _; rw [bits_andNot_u64 a b ha hb], h⟩
theorem pow_lt64 {n : Nat} (hn : n < 64) : 2 ^ n < 18446744073709551616 := Nat.lt_of_lt_of_le (Nat.pow_lt_pow_right (by decide) hn) (by decide)
theorem qShlU (n : Nat) {x y : Int} (hx : x = 1) (hy : y = n) (hn : n < 64) (h : q (.v (.int .u64 ((2 ^ n : Nat) : Int)))) : NeedQ P s (do eqGuard .shl ty xo yo (.int .u64 x) (.int .i64 y); binOp .shl ty (.int .u64 x) (.int .i64 y)) q := by
  subst hx hy
  refine ⟨_, fun w _ => ?_, h⟩
  have hp := pow_lt64 hn
  have h1 : (eqGuard .shl ty xo yo (.int .u64 1) (.int .i64 n)).run P w = .ok () w := by simp [eqGuard]
  rw [Sem.run_bind, h1, Result.andThen_ok]
  show (Op.shift .shl .u64 1 .i64 n).run P w = _
  have h0 : ¬ (n : Int) < 0 := by omega
  have hm : min (n : Int).toNat IntKind.u64.bits = n := by show min n 64 = n; omega
  unfold Op.shift
  rw [if_neg h0]
  dsimp only
  rw [hm, wrapU, Int.one_mul]
  have e : ((2 : Int) ^ n) = ((2 ^ n : Nat) : Int) := by simp
  rw [e, show ((2 ^ n : Nat) : Int) % 18446744073709551616 = ((2 ^ n : Nat) : Int) from Int.emod_eq_of_lt (Int.natCast_nonneg _) (Int.ofNat_lt.2 hp)]
  rfl
theorem shr_run (a n : Nat) (k : IntKind) (hn : n < 64) (w : World) : (Op.shift .shr .u64 a k n).run P w = .ok (.int .u64 ((a >>> n : Nat) : Int)) w := by
  have h0 : ¬ (n : Int) < 0 := by omega
  have hm : min (n : Int).toNat IntKind.u64.bits = n := by show min n 64 = n; omega
  unfold Op.shift
  rw [if_neg h0]
  dsimp only
  rw [hm, Int.fdiv_eq_ediv_of_nonneg _ (by have := Nat.two_pow_pos n; simp only [Int.pow_nonneg (by decide : (0 : Int) ≤ 2)]), Nat.shiftRight_eq_div_pow]
  have e : ((2 : Int) ^ n) = ((2 ^ n : Nat) : Int) := by simp
  rw [e]
  rfl
theorem qShrU (a n : Nat) {x y : Int} (hx : x = a) (hy : y = n) (hn : n < 64) (h : q (.v (.int .u64 ((a >>> n : Nat) : Int)))) : NeedQ P s (do eqGuard .shr ty xo yo (.int .u64 x) (.int .i64 y); binOp .shr ty (.int .u64 x) (.int .i64 y)) q := by
  subst hx hy
  refine ⟨_, fun w _ => ?_, h⟩
  have h1 : (eqGuard .shr ty xo yo (.int .u64 a) (.int .i64 n)).run P w = .ok () w := by simp [eqGuard]
  rw [Sem.run_bind, h1, Result.andThen_ok]
  exact shr_run a n .i64 hn w
theorem qShrUU (a n : Nat) {x y : Int} (hx : x = a) (hy : y = n) (hn : n < 64) (h : q (.v (.int .u64 ((a >>> n : Nat) : Int)))) : NeedQ P s (binOp .shr ty (.int .u64 x) (.int .u64 y)) q := by
  subst hx hy
  exact ⟨_, fun w _ => shr_run a n .u64 hn w, h⟩
theorem wrapI {z : Nat} (h : z < 9223372036854775808) : IntKind.i64.wrap (z : Int) = z := by rw [IntKind.wrap_i64]; omega
theorem bits_and_i64 (a b : Nat) (ha : a < 9223372036854775808) (hb : b < 9223372036854775808) : bits .and .i64 (a : Int) (b : Int) = ((a &&& b : Nat) : Int) := by
  have hx : a &&& b < 2 ^ 63 := Nat.and_lt_two_pow _ (by omega)
  have h1 : (BitVec.ofInt 64 (a : Int)).toNat = a := by
    rw [BitVec.ofInt_natCast, BitVec.toNat_ofNat]; exact Nat.mod_eq_of_lt (by omega)
  have h2 : (BitVec.ofInt 64 (b : Int)).toNat = b := by
    rw [BitVec.ofInt_natCast, BitVec.toNat_ofNat]; exact Nat.mod_eq_of_lt (by omega)
  show IntKind.i64.wrap ((BitVec.ofInt 64 (a : Int) &&& BitVec.ofInt 64 (b : Int)).toNat : Int) = _
  rw [BitVec.toNat_and, h1, h2]
  exact wrapI hx
theorem bits_or_i64 (a b : Nat) (ha : a < 9223372036854775808) (hb : b < 9223372036854775808) : bits .or .i64 (a : Int) (b : Int) = ((a ||| b : Nat) : Int) := by
  have hx : a ||| b < 2 ^ 63 := Nat.or_lt_two_pow (by omega) (by omega)
  have h1 : (BitVec.ofInt 64 (a : Int)).toNat = a := by
    rw [BitVec.ofInt_natCast, BitVec.toNat_ofNat]; exact Nat.mod_eq_of_lt (by omega)
  have h2 : (BitVec.ofInt 64 (b : Int)).toNat = b := by
    rw [BitVec.ofInt_natCast, BitVec.toNat_ofNat]; exact Nat.mod_eq_of_lt (by omega)
  show IntKind.i64.wrap ((BitVec.ofInt 64 (a : Int) ||| BitVec.ofInt 64 (b : Int)).toNat : Int) = _
  rw [BitVec.toNat_or, h1, h2]
  exact wrapI hx
theorem qAndI (a b : Nat) {x y : Int} (hx : x = a) (hy : y = b) (ha : a < 9223372036854775808) (hb : b < 9223372036854775808) (h : q (.v (.int .i64 ((a &&& b : Nat) : Int)))) : NeedQ P s (binOp .and ty (.int .i64 x) (.int .i64 y)) q := by
  subst hx hy
  exact ⟨_, fun w _ => by show Result.ok (Value.int .i64 (bits .and .i64 a b)) w = _; rw [bits_and_i64 a b ha hb], h⟩
theorem qOrI (a b : Nat) {x y : Int} (hx : x = a) (hy : y = b) (ha : a < 9223372036854775808) (hb : b < 9223372036854775808) (h : q (.v (.int .i64 ((a ||| b : Nat) : Int)))) : NeedQ P s (binOp .or ty (.int .i64 x) (.int .i64 y)) q := by
  subst hx hy
  exact ⟨_, fun w _ => by show Result.ok (Value.int .i64 (bits .or .i64 a b)) w = _; rw [bits_or_i64 a b ha hb], h⟩
theorem qShlI (n : Nat) {x y : Int} (hx : x = 1) (hy : y = n) (hn : n < 63) (h : q (.v (.int .i64 ((2 ^ n : Nat) : Int)))) : NeedQ P s (binOp .shl ty (.int .i64 x) (.int .i64 y)) q := by
  subst hx hy
  refine ⟨_, fun w _ => ?_, h⟩
  have hp : 2 ^ n < 9223372036854775808 := Nat.lt_of_lt_of_le (Nat.pow_lt_pow_right (by decide) hn) (by decide)
  show (Op.shift .shl .i64 1 .i64 n).run P w = _
  have h0 : ¬ (n : Int) < 0 := by omega
  have hm : min (n : Int).toNat IntKind.i64.bits = n := by show min n 64 = n; omega
  unfold Op.shift
  rw [if_neg h0]
  dsimp only
  have e : ((2 : Int) ^ n) = ((2 ^ n : Nat) : Int) := by simp
  rw [hm, Int.one_mul, e, wrapI hp]
  rfl
theorem qShrI (a n : Nat) {x y : Int} (hx : x = a) (hy : y = n) (hn : n < 64) (h : q (.v (.int .i64 ((a >>> n : Nat) : Int)))) : NeedQ P s (binOp .shr ty (.int .i64 x) (.int .i64 y)) q := by
  subst hx hy
  refine ⟨_, fun w _ => ?_, h⟩
  show (Op.shift .shr .i64 a .i64 n).run P w = _
  have h0 : ¬ (n : Int) < 0 := by omega
  have hm : min (n : Int).toNat IntKind.i64.bits = n := by show min n 64 = n; omega
  unfold Op.shift
  rw [if_neg h0]
  dsimp only
  rw [hm, Int.fdiv_eq_ediv_of_nonneg _ (by have := Nat.two_pow_pos n; simp only [Int.pow_nonneg (by decide : (0 : Int) ≤ 2)]), Nat.shiftRight_eq_div_pow]
  have e : ((2 : Int) ^ n) = ((2 ^ n : Nat) : Int) := by simp
  rw [e]
  rfl
end
end Go.Dw
namespace Go.Proofs.YtbcjdjlihhlkaaaDoor
open Go Go.RowKit Go.Dw
/-- the table of math/bits lies in its variable -/
def Tab (h : Hp) : Prop := ∀ j, j < 64 → h.cell? ⟨0, j, none⟩ = some (.int .u8 (Lib.deBruijn64tab.getD j 0 : Nat))
theorem Tab.mono {h k : Hp} (ht : Tab h) (l : h.le k) : Tab k := fun j hj => l.cell (ht j hj)
theorem tz_spec (x : Nat) (hx0 : x ≠ 0) (hx : x < 18446744073709551616) (w : World) (hT : Tab (Hp.whole w)) :
    CallsE Tryd.prog 49 #[.int .u64 x] w (RetV w (.int .i64 (Lib.ctz 64 x : Nat))) := by
  obtain ⟨hlow, hk⟩ := Lib.lowest_bit 64 x hx0 hx
  obtain ⟨hi, htab⟩ := Lib.deBruijn64_at _ hk
  have hcell := hT _ hi
  rw [htab] at hcell
  refine enter (X := cx 14) (cxg _) (args := [.int .u64 x]) [.tmp 2] Tryd.func49 rfl rfl rfl rfl rfl ?_
  refine dfalse (by omega) ?_
  refine nwM (y := ((18446744073709551616 - x : Nat) : Int)) (by omega) ?_
  refine qAndU x (18446744073709551616 - x) rfl rfl hx (by omega) ?_
  have hlow' : x &&& (18446744073709551616 - x) = 2 ^ Lib.ctz 64 x := hlow
  rw [hlow']
  refine nwM (y := ((2 ^ Lib.ctz 64 x * 285870213051353865 % 18446744073709551616 : Nat) : Int)) (by omega) ?_
  refine qShrUU _ 58 rfl rfl (by decide) ?_
  have e : (2 ^ Lib.ctz 64 x * 285870213051353865 % 18446744073709551616) >>> 58 = 2 ^ Lib.ctz 64 x * 285870213051353865 % 18446744073709551616 / 288230376151711744 := by rw [Nat.shiftRight_eq_div_pow]
  rw [e]
  refine idxA (cxg _) rfl rfl rfl _ rfl (by rw [Nat.blt_eq]; exact hi) ?_
  refine ld1 (cxg _) (i := 0) rfl (h := Hp.whole w) (by simpa using hcell) rfl ?_
  refine nw (by omega) (by omega) ?_
  exact ⟨[], ⟨rfl, rfl⟩, fun w' h => h⟩
def onesF (x : Nat) : Nat :=
  let a := ((x >>> 1) &&& 6148914691236517205) + (x &&& 6148914691236517205)
  let b := ((a >>> 2) &&& 3689348814741910323) + (a &&& 3689348814741910323)
  let c := ((b >>> 4) + b) &&& 1085102592571150095
  let d := c + (c >>> 8)
  let e := d + (d >>> 16)
  let f := e + (e >>> 32)
  f &&& 127
end Go.Proofs.YtbcjdjlihhlkaaaDoor
namespace Go.Proofs.YtbcjdjlihhlkaaaDoor
open Go Go.RowKit Go.Dw
def fU (x : Nat) : List Value := [.int .u64 x]
/-! ### the lowest bit -/
theorem clear_low (k m i : Nat) : ((2 ^ k * (2 * m + 1)) &&& (2 ^ k * (2 * m + 1) - 1)).testBit i = (decide (i ≠ k) && (2 ^ k * (2 * m + 1)).testBit i) := by
  have hp := Nat.two_pow_pos k
  have e : 2 ^ k * (2 * m + 1) - 1 = 2 ^ k * (2 * m) + (2 ^ k - 1) := by
    rw [Nat.mul_add]; omega
  rw [Nat.testBit_and, e, Nat.testBit_two_pow_mul_add _ (by omega), Nat.mul_comm (2 ^ k) (2 * m + 1), Nat.testBit_mul_two_pow]
  by_cases h : i < k
  · have h1 : ¬ k ≤ i := by omega
    simp [h1]
  · rw [if_neg h]
    by_cases he : i = k
    · subst he; simp [Nat.testBit_zero]
    · obtain ⟨j, rfl⟩ : ∃ j, i = k + (j + 1) := ⟨i - k - 1, by omega⟩
      have e3 : k + (j + 1) - k = j + 1 := by omega
      rw [e3, Nat.testBit_succ, Nat.testBit_succ]
      have d1 : (2 * m + 1) / 2 = m := by omega
      have d2 : 2 * m / 2 = m := by omega
      rw [d1, d2]
      simp
theorem filter_head {n k : Nat} {p q : Nat → Bool} (hk : k < n) (hp : p k = true) (h1 : ∀ i, i < k → p i = false) (hq : ∀ i, q i = (decide (i ≠ k) && p i)) : (List.range n).filter p = k :: (List.range n).filter q := by
  have e : List.range n = List.range k ++ (k :: List.range' (k + 1) (n - k - 1)) := by
    rw [List.range_eq_range', List.range_eq_range']
    have : n = k + ((n - k - 1) + 1) := by omega
    conv => lhs; rw [this]
    rw [← List.range'_append_1, List.range'_succ, Nat.zero_add]
  have f1 : (List.range k).filter p = [] := List.filter_eq_nil_iff.2 fun i hi => by rw [h1 i (List.mem_range.1 hi)]; simp
  have f2 : (List.range k).filter q = [] := List.filter_eq_nil_iff.2 fun i hi => by rw [hq, h1 i (List.mem_range.1 hi)]; simp
  have f3 : (List.range' (k + 1) (n - k - 1)).filter p = (List.range' (k + 1) (n - k - 1)).filter q := List.filter_congr fun i hi => by
    have := (List.mem_range'_1.1 hi).1
    rw [hq, decide_eq_true (show i ≠ k by omega), Bool.true_and]
  have hqk : q k = false := by rw [hq]; simp
  rw [e, List.filter_append, List.filter_append, f1, f2, List.filter_cons_of_pos hp, List.filter_cons_of_neg (by rw [hqk]; simp), f3]
  rfl
/-- the nodes of a set -/
def nodN (s : Nat) : List Nat := (List.range 64).filter fun i => s.testBit i
def nod (s : Nat) : List Int := (nodN s).map fun i : Nat => (i : Int)
theorem nod_zero : nod 0 = [] := by unfold nod nodN; simp
theorem nod_len (s : Nat) : (nod s).length ≤ 64 := by unfold nod nodN; rw [List.length_map]; exact Nat.le_trans (List.length_filter_le _ _) (by simp)
theorem nod_step {s : Nat} (h0 : s ≠ 0) (hs : s < 18446744073709551616) : nod s = (Lib.ctz 64 s : Int) :: nod (s &&& (s - 1)) ∧ s &&& (s - 1) < s := by
  obtain ⟨m, hm, hk⟩ := Lib.ctzFrom_spec 64 s (by omega) hs
  have hc : Lib.ctz 64 s = Lib.ctzFrom 64 s := by unfold Lib.ctz; rw [if_neg h0]
  rw [hc]
  generalize Lib.ctzFrom 64 s = k at hm hk
  subst hm
  constructor
  · unfold nod nodN
    rw [filter_head (k := k) (q := fun i => ((2 ^ k * (2 * m + 1)) &&& (2 ^ k * (2 * m + 1) - 1)).testBit i) hk ?_ ?_ fun i => clear_low k m i, List.map_cons]
    · rw [Nat.mul_comm, Nat.testBit_mul_two_pow]; simp [Nat.testBit_zero]
    · intro i hi
      rw [Nat.mul_comm, Nat.testBit_mul_two_pow, decide_eq_false (by omega), Bool.false_and]
  · have := Nat.and_le_right (n := 2 ^ k * (2 * m + 1)) (m := 2 ^ k * (2 * m + 1) - 1)
    omega
theorem nodes_spec (s : Nat) (hs : s < 18446744073709551616) (w : World) (hT : Tab (Hp.whole w)) :
    CallsE Tryd.prog 34 #[.int .u64 s] w (Ret w fun v cs => ∃ o : Dw.Os, v = o.v ∧ cs = [.hp o.h] ∧ OwnO fI 3 1 o (nod s)) := by
  refine enter (X := cx 16) (cxg _) (args := [.int .u64 s]) [.tmp 2] Tryd.func34 rfl rfl rfl rfl rfl ?_
  refine NeedL.mk (Nat × List Int × Dw.Os) (fun g => [(0, .v (.int .u64 g.1)), (3, .v g.2.2.v)]) (fun g => [.hp (Hp.whole w), .hp g.2.2.h])
    (fun g => g.1 < 18446744073709551616 ∧ nod s = g.2.1 ++ nod g.1 ∧ OwnO fI 3 1 g.2.2 g.2.1) (fun g => g.1) (s, [], Os.nil) ⟨hs, rfl, OwnO.nil _ _ _⟩ (Ent.mk (fun _ _ h => h.emp) rfl rfl) ?_
  rintro ⟨c, L, o⟩ ⟨hc, hL, ho⟩
  dsimp only at *
  have hll := nod_len s
  rw [hL, List.length_append] at hll
  refine bsplitd (fun h => ?_) (fun h => ?_)
  · have h0 : c ≠ 0 := by omega
    obtain ⟨e1, e2⟩ := nod_step h0 hc
    refine callV _ (fun w' hm => tz_spec c h0 hc w' (hT.mono (hm 0 _ rfl))) ?_
    intro b
    refine appO (cxg _) (e := 3) rfl (i := 1) rfl ho (j := 2) ((Lib.ctz 64 c : Nat) : Int) rfl rfl rfl rfl (by omega) (fun o' ho' => ?_)
    refine nwM (y := ((c - 1 : Nat) : Int)) (by omega) ?_
    refine qAndU c (c - 1) rfl rfl hc (by omega) ?_
    exact ⟨(c &&& (c - 1), L ++ [((Lib.ctz 64 c : Nat) : Int)], o'), ⟨by dsimp only; omega, by dsimp only; rw [hL, e1]; simp, ho'⟩, by dsimp only; exact e2, Ent.mk (fun _ _ h => h.pick [0, 1] rfl rfl) rfl rfl⟩
  · have h0 : c = 0 := by omega
    subst h0
    rw [nod_zero, List.append_nil] at hL
    rw [← hL] at ho
    exact ⟨[.hp o.h], ⟨o, rfl, rfl, ho⟩, fun w' h => h⟩
theorem and_le_mask (a m : Nat) : a &&& m ≤ m := Nat.and_le_right
theorem shr_le (a n : Nat) : a >>> n ≤ a := by rw [Nat.shiftRight_eq_div_pow]; exact Nat.div_le_self _ _
theorem ones_spec (x : Nat) (hx : x < 18446744073709551616) (w : World) : CallsE Tryd.prog 63 #[.int .u64 x] w (RetV w (.int .i64 (onesF x : Nat))) := by
  refine enter (X := cx 35) (cxg _) (args := [.int .u64 x]) [.tmp 2] Tryd.func63 rfl rfl rfl rfl rfl ?_
  refine qShrUU x 1 rfl rfl (by decide) ?_
  have s1 := shr_le x 1
  refine qAndU (x >>> 1) 6148914691236517205 rfl rfl (by omega) (by decide) ?_
  refine qAndU x 6148914691236517205 rfl rfl hx (by decide) ?_
  have m1 := and_le_mask (x >>> 1) 6148914691236517205
  have m2 := and_le_mask x 6148914691236517205
  obtain ⟨a, ha⟩ : ∃ a, a = ((x >>> 1) &&& 6148914691236517205) + (x &&& 6148914691236517205) := ⟨_, rfl⟩
  refine nwM (y := (a : Int)) (by omega) ?_
  refine qShrUU a 2 rfl rfl (by decide) ?_
  have s2 := shr_le a 2
  refine qAndU (a >>> 2) 3689348814741910323 rfl rfl (by omega) (by decide) ?_
  refine qAndU a 3689348814741910323 rfl rfl (by omega) (by decide) ?_
  have m3 := and_le_mask (a >>> 2) 3689348814741910323
  have m4 := and_le_mask a 3689348814741910323
  obtain ⟨b, hb⟩ : ∃ b, b = ((a >>> 2) &&& 3689348814741910323) + (a &&& 3689348814741910323) := ⟨_, rfl⟩
  refine nwM (y := (b : Int)) (by omega) ?_
  refine qShrUU b 4 rfl rfl (by decide) ?_
  have s3 : b >>> 4 = b / 16 := Nat.shiftRight_eq_div_pow _ _
  refine nwM (y := ((b >>> 4 + b : Nat) : Int)) (by omega) ?_
  refine qAndU (b >>> 4 + b) 1085102592571150095 rfl rfl (by omega) (by decide) ?_
  have m5 := and_le_mask (b >>> 4 + b) 1085102592571150095
  obtain ⟨c, hc⟩ : ∃ c, c = (b >>> 4 + b) &&& 1085102592571150095 := ⟨_, rfl⟩
  rw [← hc] at m5 ⊢
  refine qShrUU c 8 rfl rfl (by decide) ?_
  have s4 : c >>> 8 = c / 256 := Nat.shiftRight_eq_div_pow _ _
  obtain ⟨d, hd⟩ : ∃ d, d = c + c >>> 8 := ⟨_, rfl⟩
  refine nwM (y := (d : Int)) (by omega) ?_
  refine qShrUU d 16 rfl rfl (by decide) ?_
  have s5 : d >>> 16 = d / 65536 := Nat.shiftRight_eq_div_pow _ _
  obtain ⟨e, he⟩ : ∃ e, e = d + d >>> 16 := ⟨_, rfl⟩
  refine nwM (y := (e : Int)) (by omega) ?_
  refine qShrUU e 32 rfl rfl (by decide) ?_
  have s6 : e >>> 32 = e / 4294967296 := Nat.shiftRight_eq_div_pow _ _
  obtain ⟨f, hf⟩ : ∃ f, f = e + e >>> 32 := ⟨_, rfl⟩
  refine nwM (y := (f : Int)) (by omega) ?_
  refine nw (by omega) (by omega) ?_
  refine qAndI f 127 rfl rfl (by omega) (by decide) ?_
  refine ⟨[], ⟨?_, rfl⟩, fun w' h => h⟩
  unfold onesF
  dsimp only
  rw [← ha, ← hb, ← hc, ← hd, ← he, ← hf]
theorem size_spec (x : Nat) (hx : x < 18446744073709551616) (w : World) : CallsE Tryd.prog 45 #[.int .u64 x] w (RetV w (.int .i64 (onesF x : Nat))) := by
  refine enter (X := cx 5) (cxg _) (args := [.int .u64 x]) [.tmp 2] Tryd.func45 rfl rfl rfl rfl rfl ?_
  refine callV _ (fun w' _ => ones_spec x hx w') ?_
  exact ⟨[], ⟨rfl, rfl⟩, fun w' h => h⟩
def ofN (L : List Int) : Nat := L.foldl (fun s n => s ||| 2 ^ n.toNat) 0
theorem or_lt {a b : Nat} (ha : a < 18446744073709551616) (hb : b < 18446744073709551616) : a ||| b < 18446744073709551616 := Nat.or_lt_two_pow (n := 64) ha hb
theorem ofN_lt {L : List Int} (h : ∀ x ∈ L, x < 64) : ofN L < 18446744073709551616 := by
  unfold ofN
  have : ∀ (L : List Int) (s : Nat), (∀ x ∈ L, x < 64) → s < 18446744073709551616 → L.foldl (fun s (n : Int) => s ||| 2 ^ n.toNat) s < 18446744073709551616 := by
    intro L
    induction L with
    | nil => intro s _ hs; exact hs
    | cons x r ih =>
      intro s h hs
      refine ih _ (fun y hy => h y (by simp [hy])) (or_lt hs (pow_lt64 ?_))
      have := h x (by simp)
      omega
  exact this L 0 h (by decide)
theorem of_spec {a : Option Addr} {n c : Nat} {L : List Int} (w : World) (hL : Sl (encF fI) 1 (Hp.whole w) a n c L) (hr : ∀ x ∈ L, 0 ≤ x ∧ x < 64) (hn : n < 1000000000) :
    CallsE Tryd.prog 41 #[.slice a n c] w (RetV w (.int .u64 (ofN L : Nat))) := by
  have hlen := hL.len
  refine enter (X := cx 18) (cxg _) (args := [.slice a n c]) [.tmp 2] Tryd.func41 rfl rfl rfl rfl rfl ?_
  refine NeedL.mk Nat (fun k => [(3, .v (.int .u64 (ofN (L.take k) : Nat))), (6, .v (.slice a n c)), (7, .v (.int .i64 n)), (8, .v (.int .i64 k))]) (fun _ => [.hp (Hp.whole w)])
    (fun k => k ≤ n) (fun k => n - k) 0 (Nat.zero_le _) (Ent.mk (fun _ _ h => h) rfl rfl) ?_
  rintro k hk
  refine bsplitd (fun hlt => ?_) (fun hge => ?_)
  · have hlt' : k < L.length := by omega
    obtain ⟨r1, r2⟩ := hr _ (List.getElem_mem hlt')
    refine idx (cxg _) (e := 3) rfl hL k rfl hlt' (fun b o cs hcs hR hcell => ?_)
    subst hR
    refine ld1 (cxg _) (i := 0) rfl (hcell 0 _ rfl) rfl ?_
    refine qShlU L[k].toNat rfl (by omega) (by omega) ?_
    refine qOrU (ofN (L.take k)) (2 ^ L[k].toNat) rfl rfl (ofN_lt fun x hx => (hr x (List.mem_of_mem_take hx)).2) (pow_lt64 (by omega)) ?_
    refine nw (by omega) (by omega) ?_
    have e : ofN (L.take (k + 1)) = ofN (L.take k) ||| 2 ^ L[k].toNat := by
      unfold ofN; rw [List.take_succ_eq_append_getElem hlt', List.foldl_append]; rfl
    exact ⟨k + 1, by omega, by omega, Ent.mk (fun _ _ h => h) (by rw [e]; rfl) rfl⟩
  · rw [List.take_of_length_le (by omega)]
    exact ⟨[], ⟨rfl, rfl⟩, fun w' h => h⟩
def cmpS (a b : Nat) : Int := orI [cmpI (onesF a : Nat) (onesF b : Nat), cmpL (nod a) (nod b)]
theorem compareS_spec (a b : Nat) (ha : a < 18446744073709551616) (hb : b < 18446744073709551616) (w : World) (hT : Tab (Hp.whole w)) :
    CallsE Tryd.prog 33 #[.int .u64 a, .int .u64 b] w (RetV w (.int .i64 (cmpS a b))) := by
  refine enter (X := cx 17) (cxg _) (args := [.int .u64 a, .int .u64 b]) [.tmp 4] Tryd.func33 rfl rfl rfl rfl rfl ?_
  refine callV _ (fun w' _ => size_spec a ha w') ?_
  refine callV _ (fun w' _ => size_spec b hb w') ?_
  refine callV _ (fun w' _ => compare_spec _ _ w') ?_
  refine call (fun w' hm => nodes_spec a ha w' (hT.mono (hm 0 _ rfl))) ?_
  rintro _ _ ⟨o1, rfl, rfl, ho1⟩
  refine call (fun w' hm => nodes_spec b hb w' (hT.mono (hm 0 _ rfl))) ?_
  rintro _ _ ⟨o2, rfl, rfl, ho2⟩
  have s1 := OwnO.sl (f := fI) (fun _ => rfl) (by decide) ho1
  have s2 := OwnO.sl (f := fI) (fun _ => rfl) (by decide) ho2
  have l1 := ho1.len
  have l2 := nod_len a
  refine callV _ (fun w' hm => compareInts_spec w' (s1.mono (encF_mono _) (hm 1 _ rfl)) (s2.mono (encF_mono _) (hm 2 _ rfl)) (by omega)) ?_
  intro b3
  refine callV _ (fun w' hm => or_spec w' (Sl.box (f := fI) (fun _ => rfl) (by decide) (hm 3 _ rfl) [cmpI (onesF a : Nat) (onesF b : Nat), cmpL (nod a) (nod b)] rfl rfl (by simp)) (by decide)) ?_
  exact ⟨[], ⟨rfl, rfl⟩, fun w' h => h.pick [0] rfl rfl⟩
end Go.Proofs.YtbcjdjlihhlkaaaDoor
namespace Go.Proofs.YtbcjdjlihhlkaaaDoor
open Go Go.RowKit Go.Dw
def hulv (N : Nat) (E : List (Int × Int)) (i : Nat) : Nat := ofN (reaK N E [(i : Int)] N)
def hulF (N : Nat) (E : List (Int × Int)) : List Nat := (List.range N).map (hulv N E)
theorem hulv_lt {N : Nat} {E : List (Int × Int)} (hN : N ≤ 64) (i : Nat) : hulv N E i < 18446744073709551616 := ofN_lt fun x hx => by have := rea_rng hx; omega
theorem hulls_spec {a : Option Addr} {n c : Nat} {E : List (Int × Int)} (N : Nat) (w : World) (hL : Sl (encF fE) 2 (Hp.whole w) a n c E) (hG : Gr N E) (h0 : checkF N E = 0) :
    CallsE Tryd.prog 31 #[gv N a n c] w (Ret w fun v cs => ∃ o : Dw.Os, v = o.v ∧ cs = [.hp o.h] ∧ OwnO fU 60 1 o (hulF N E)) := by
  have hN := hG.hN
  have kC := Closure_spec N w hL
  unfold closR at kC
  rw [if_pos h0, Int.toNat_natCast, closR_eq] at kC
  have kC' : ∀ {a : Option Addr} {n c : Nat} (w : World), Sl (encF fE) 2 (Hp.whole w) a n c E → CallsE Tryd.prog 44 #[gv N a n c] w (RetR w ((List.range N).map fun x : Nat => reaK N E [(x : Int)] N) (checkF N E)) := fun w h => by
    have := Closure_spec N w h
    unfold closR at this
    rw [if_pos h0, Int.toNat_natCast, closR_eq] at this
    exact this
  clear kC
  refine enter (X := cx 30) (cxg _) (args := [.agg #[.int .i64 N, .slice a n c]]) [.tmp 2] Tryd.func31 rfl rfl rfl rfl rfl ?_
  intro b1
  refine call (fun w' hm => kC' w' (hL.mono (encF_mono _) (hm 0 _ rfl))) ?_
  rintro _ _ ⟨a', n', c', h, rfl, rfl, hs⟩
  have hn := hs.len
  rw [List.length_map, List.length_range] at hn
  refine mkO (f := fU) (cxg _) (e := 60) rfl N 0 rfl rfl rfl rfl (by omega) fun o ho' ho => ?_
  refine NeedL.mk (Nat × Dw.Os) (fun g => [(5, .v g.2.v), (16, .v (.slice a' n' c')), (17, .v (.int .i64 n')), (18, .v (.int .i64 g.1))]) (fun g => [.hp (Hp.whole w), .box b1 [.int .i64 N, .slice a n c] 28, .hp h, .hp g.2.h])
    (fun g => g.1 ≤ N ∧ g.2.n = N ∧ OwnO fU 60 1 g.2 ((List.range N).map fun i => if i < g.1 then hulv N E i else 0)) (fun g => N - g.1) (0, o) ⟨Nat.zero_le _, ho', ?_⟩ (Ent.mk (fun _ _ h => h) rfl rfl) ?_
  · dsimp only
    have : ((List.range N).map fun i => if i < 0 then hulv N E i else 0) = List.replicate N 0 := by
      apply List.ext_getElem
      · simp
      · intro i h1 h2; simp
    rw [this]; exact ho
  clear ho' ho o
  rintro ⟨k, o⟩ ⟨hk, hon, ho⟩
  dsimp only at *
  refine bsplitd (fun hlt => ?_) (fun hge => ?_)
  · have hkN : k < N := by omega
    have hkl : k < ((List.range N).map fun x : Nat => reaK N E [(x : Int)] N).length := by simp; omega
    have hko : k < ((List.range N).map fun i => if i < k then hulv N E i else 0).length := by simp; omega
    have hrow : ((List.range N).map fun x : Nat => reaK N E [(x : Int)] N)[k] = reaK N E [(k : Int)] N := by simp
    have hrl := reaK_len N E [(k : Int)] N
    refine idx (cxg _) (e := 35) rfl hs k rfl hkl (fun b9 o9 cs hcs hR hcell => ?_)
    obtain ⟨a3, n3, c3, rfl, hs3⟩ := hR
    rw [hrow] at hs3
    have l3 := hs3.len
    refine ld1 (cxg _) (i := 2) rfl (hcell 0 _ rfl) rfl ?_
    refine callV _ (fun w' hm => of_spec w' (hs3.mono (encF_mono _) (hm 2 _ rfl)) (fun x hx => by have := rea_rng hx; omega) (by omega)) ?_
    refine oidx1 (cxg _) (e := 60) rfl rfl ho k rfl hko fun b3 hb3 => ?_
    refine osto (g := fun x : Nat => .int .u64 x) (fun _ => rfl) (cxg _) (i := 3) rfl hb3 ho hko rfl rfl (hulv N E k) rfl rfl rfl fun o3 e1 e2 e3 ho3 => ?_
    refine nw (by omega) (by omega) ?_
    refine ⟨(k + 1, o3), ⟨by dsimp only; omega, by dsimp only; omega, ?_⟩, by dsimp only; omega, Ent.mk (fun _ _ h => h) (by dsimp only [Os.v]; rw [e1, e2, e3]; rfl) rfl⟩
    dsimp only
    rw [range_set] at ho3
    have : ((List.range N).map fun i => if i < k + 1 then hulv N E i else 0) = (List.range N).map fun v => if v = k then hulv N E k else if v < k then hulv N E v else 0 := by
      refine List.map_congr_left fun v _ => ?_
      by_cases h : v = k
      · subst h; simp
      · by_cases h2 : v < k
        · rw [if_pos (by omega), if_neg h, if_pos h2]
        · rw [if_neg (by omega), if_neg h, if_neg h2]
    rw [this]; exact ho3
  · have hall : ((List.range N).map fun i => if i < k then hulv N E i else 0) = hulF N E := by
      unfold hulF
      refine List.map_congr_left fun v hv => ?_
      rw [if_pos (by have := List.mem_range.1 hv; omega)]
    rw [hall] at ho
    exact ⟨[.hp o.h], ⟨o, rfl, rfl, ho⟩, fun w' h => h.pick [0, 3] rfl rfl⟩
/-- what limits allow -/
def alwF (all : Nat) (most without : Int) (s : Nat) : Bool :=
  decide ((s : Int) ≠ all) && (decide (most = 0) || decide ((onesF s : Int) ≤ most)) && (decide (without < 0) || decide ((((s >>> without.toNat) &&& 1 : Nat) : Int) = 0))
theorem allows_spec (all : Nat) (most without : Int) (s : Nat) (hs : s < 18446744073709551616) (hw : without < 64) (w : World) :
    CallsE Tryd.prog 32 #[.agg #[.int .u64 all, .int .i64 most, .int .i64 without], .int .u64 s] w (RetV w (.bool (alwF all most without s))) := by
  refine enter (X := cx 34) (cxg _) (args := [.agg #[.int .u64 all, .int .i64 most, .int .i64 without], .int .u64 s]) [.tmp 4] Tryd.func32 rfl rfl rfl rfl rfl ?_
  intro b2
  refine NeedD.by_order (cxg _) (.take 0 <| .take 1 <| .take 2 <| .take 3 <| .take 4 <| .take 5 <| .take 6 <| .take 7 <| .take 8 <| .take 9 <| .take 11 <| .take 12 <| .run 10 <| .take 13 <| .take 14 <| .take 15 <| .take 16 <| .take 17 <| .take 18 <| .take 19 <| .take 20 <| .take 21 <| .take 22 <| .take 23 <| .take 24 <| .take 25 <| .take 26 <| .take 27 <| .take 28 <| .take 29 <| .done) (by kernel_rfl) ?_
  have sl := shr_le s without.toNat
  refine bsplitd (fun h1 => ?_) (fun h1 => ?_)
  · refine bsplitd (fun h2 => ?_) (fun h2 => ?_)
    · refine ⟨(by repeat first | exact trivial | refine ⟨.inl rfl, ?_⟩ | refine ⟨.inr rfl, ?_⟩), ?_⟩
      refine bsplitd (fun h3 => ?_) (fun h3 => ?_)
      · exact ⟨[], ⟨by unfold alwF; rw [decide_eq_true h1, decide_eq_true h2, decide_eq_true h3]; rfl, rfl⟩, fun w' h => h.pick [0] rfl rfl⟩
      · refine qShrU s without.toNat rfl (by omega) (by omega) ?_
        refine qAndU (s >>> without.toNat) 1 rfl rfl (by omega) (by decide) ?_
        exact ⟨[], ⟨by unfold alwF; rw [decide_eq_true h1, decide_eq_true h2, decide_eq_false h3]; rfl, rfl⟩, fun w' h => h.pick [0] rfl rfl⟩
    · refine callV _ (fun w' _ => size_spec s hs w') ?_
      refine ⟨(by repeat first | exact trivial | refine ⟨.inl rfl, ?_⟩ | refine ⟨.inr rfl, ?_⟩), ?_⟩
      refine bsplitd (fun h4 => ?_) (fun h4 => ?_)
      · refine bsplitd (fun h3 => ?_) (fun h3 => ?_)
        · exact ⟨[], ⟨by unfold alwF; rw [decide_eq_true h1, decide_eq_false h2, decide_eq_true h4, decide_eq_true h3]; rfl, rfl⟩, fun w' h => h.pick [0] rfl rfl⟩
        · refine qShrU s without.toNat rfl (by omega) (by omega) ?_
          refine qAndU (s >>> without.toNat) 1 rfl rfl (by omega) (by decide) ?_
          exact ⟨[], ⟨by unfold alwF; rw [decide_eq_true h1, decide_eq_false h2, decide_eq_true h4, decide_eq_false h3]; rfl, rfl⟩, fun w' h => h.pick [0] rfl rfl⟩
      · exact ⟨[], ⟨by unfold alwF; rw [decide_eq_true h1, decide_eq_false h2, decide_eq_false h4]; rfl, rfl⟩, fun w' h => h.pick [0] rfl rfl⟩
  · refine ⟨(by repeat first | exact trivial | refine ⟨.inl rfl, ?_⟩ | refine ⟨.inr rfl, ?_⟩), ?_⟩
    exact ⟨[], ⟨by unfold alwF; rw [decide_eq_false h1]; rfl, rfl⟩, fun w' h => h.pick [0] rfl rfl⟩
def allN (N : Nat) : Nat := ofN ((List.range N).map fun i : Nat => (i : Int))
theorem allN_lt {N : Nat} (hN : N ≤ 64) : allN N < 18446744073709551616 := ofN_lt fun x hx => by
  obtain ⟨i, hi, rfl⟩ := List.mem_map.1 hx
  have := List.mem_range.1 hi
  omega
theorem allN_succ (N : Nat) : allN (N + 1) = allN N ||| 2 ^ N := by
  unfold allN ofN
  rw [List.range_succ, List.map_append, List.foldl_append]
  rfl
def resE (N : Int) (E : List (Int × Int)) (most without : Int) : Int := if checkF N E ≠ 0 then checkF N E else if most < 0 ∨ without < -1 ∨ without ≥ N then 2 else 0
def resA (N : Int) (E : List (Int × Int)) (most without : Int) : Nat := if resE N E most without = 0 then allN N.toNat else 0
def resM (N : Int) (E : List (Int × Int)) (most without : Int) : Int := if resE N E most without = 0 then most else 0
def resX (N : Int) (E : List (Int × Int)) (most without : Int) : Int := if resE N E most without = 0 then without else 0
theorem restricted_spec {a : Option Addr} {n c : Nat} {E : List (Int × Int)} (N most without : Int) (w : World) (hL : Sl (encF fE) 2 (Hp.whole w) a n c E) :
    CallsE Tryd.prog 28 #[gv N a n c, .int .i64 most, .int .i64 without] w (RetV w (.tuple #[.agg #[.int .u64 (resA N E most without : Nat), .int .i64 (resM N E most without), .int .i64 (resX N E most without)], .int .i64 (resE N E most without)])) := by
  have zero : resE N E most without ≠ 0 → resA N E most without = 0 ∧ resM N E most without = 0 ∧ resX N E most without = 0 := fun h => by
    unfold resA resM resX; rw [if_neg h, if_neg h, if_neg h]; exact ⟨rfl, rfl, rfl⟩
  refine enter (X := cx 44) (cxg _) (args := [.agg #[.int .i64 N, .slice a n c], .int .i64 most, .int .i64 without]) [.cell 6 62, .tmp 7] Tryd.func28 rfl rfl rfl rfl rfl ?_
  intro b3 b6
  refine callV _ (fun w' hm => check_spec N w' (hL.mono (encF_mono _) (hm 0 _ rfl))) ?_
  refine bsplitd (fun h => ?_) (fun h => ?_)
  · have e : resE N E most without = checkF N E := by unfold resE; rw [if_pos h]
    obtain ⟨z1, z2, z3⟩ := zero (by rw [e]; exact h)
    exact ⟨[], ⟨by rw [z1, z2, z3, e]; rfl, rfl⟩, fun w' h => h.pick [0] rfl rfl⟩
  have h0 : checkF N E = 0 := Decidable.not_not.1 h
  have bad : (most < 0 ∨ without < -1 ∨ without ≥ N) → resE N E most without = 2 := fun hb => by unfold resE; rw [if_neg h, if_pos hb]
  have badv : (most < 0 ∨ without < -1 ∨ without ≥ N) → resA N E most without = 0 ∧ resM N E most without = 0 ∧ resX N E most without = 0 := fun hb => zero (by rw [bad hb]; decide)
  refine bsplitd (fun h1 => ?_) (fun h1 => ?_)
  · exact ⟨[], ⟨by rw [bad (.inl h1), (badv (.inl h1)).1, (badv (.inl h1)).2.1, (badv (.inl h1)).2.2]; rfl, rfl⟩, fun w' h => h.pick [0] rfl rfl⟩
  refine bsplitd (fun h2 => ?_) (fun h2 => ?_)
  · exact ⟨[], ⟨by rw [bad (.inr (.inl h2)), (badv (.inr (.inl h2))).1, (badv (.inr (.inl h2))).2.1, (badv (.inr (.inl h2))).2.2]; rfl, rfl⟩, fun w' h => h.pick [0] rfl rfl⟩
  refine bsplitd (fun h3 => ?_) (fun h3 => ?_)
  · exact ⟨[], ⟨by rw [bad (.inr (.inr h3)), (badv (.inr (.inr h3))).1, (badv (.inr (.inr h3))).2.1, (badv (.inr (.inr h3))).2.2]; rfl, rfl⟩, fun w' h => h.pick [0] rfl rfl⟩
  have good : resE N E most without = 0 := by unfold resE; rw [if_neg h, if_neg (by omega)]
  have g1 : resA N E most without = allN N.toNat := by unfold resA; rw [if_pos good]
  have g2 : resM N E most without = most := by unfold resM; rw [if_pos good]
  have g3 : resX N E most without = without := by unfold resX; rw [if_pos good]
  obtain ⟨M, rfl, hG, _⟩ := checkF_ok h0
  have hN := hG.hN
  refine NeedL.mk Nat (fun k => [(1, .v (.int .i64 most)), (2, .v (.int .i64 without)), (6, .bx 2 0), (9, .v (.int .u64 (allN k))), (31, .v (.int .i64 M)), (32, .v (.int .i64 k))])
    (fun _ => [.hp (Hp.whole w), .box b3 [.int .i64 M, .slice a n c] 28, .box b6 [.int .u64 0, .int .i64 0, .int .i64 0] 62]) (fun k => k ≤ M) (fun k => M - k) 0 (Nat.zero_le _) (Ent.mk (fun _ _ h => h) rfl rfl) ?_
  rintro k hk
  refine bsplitd (fun hlt => ?_) (fun hge => ?_)
  · refine qShlU k rfl rfl (by omega) ?_
    refine qOrU (allN k) (2 ^ k) rfl rfl (allN_lt (by omega)) (pow_lt64 (by omega)) ?_
    refine nw (by omega) (by omega) ?_
    exact ⟨k + 1, by omega, by omega, Ent.mk (fun _ _ h => h) (by rw [allN_succ]; rfl) rfl⟩
  · rw [show k = M by omega]
    exact ⟨[], ⟨by rw [good, g1, g2, g3, Int.toNat_natCast], rfl⟩, fun w' h => h.pick [0] rfl rfl⟩
theorem listsS_spec {a : Option Addr} {n c : Nat} {L : List Nat} (w : World) (hL : Sl (encF fU) 1 (Hp.whole w) a n c L) (hr : ∀ x ∈ L, x < 18446744073709551616) (hn : n < 1000000000) (hT : Tab (Hp.whole w)) :
    CallsE Tryd.prog 30 #[.slice a n c] w (Ret w fun v cs => ∃ a' n' c' h, v = .slice a' n' c' ∧ cs = [.hp h] ∧ Sl (encS (encF fI) 1) 1 h a' n' c' (L.map nod)) := by
  have hlen := hL.len
  refine enter (X := cx 19) (cxg _) (args := [.slice a n c]) [.tmp 2] Tryd.func30 rfl rfl rfl rfl rfl ?_
  refine NeedL.mkS (Nat × Dw.Os × List Dw.Os × Hp) (fun g => [(3, .v g.2.1.v), (6, .v (.slice a n c)), (7, .v (.int .i64 n)), (8, .v (.int .i64 g.1))]) (fun g => [.hp (Hp.whole w), .hp g.2.1.h, .hp g.2.2.2])
    (fun g => g.1 ≤ n ∧ OwnO Os.row 35 1 g.2.1 g.2.2.1 ∧ Rws fI 3 1 g.2.2.2 g.2.2.1 ((L.take g.1).map nod)) (fun g => n - g.1) (0, Os.nil, [], Hp.emp)
    ⟨Nat.zero_le _, OwnO.nil _ _ _, Rws.nil _ _ _ _⟩ (Ent.mk (fun _ _ h => h.emp.emp) rfl rfl) ?_
  rintro ⟨k, oR, os, H⟩ ⟨hk, hoR, hrw⟩ hsat
  dsimp only at *
  have hrl : os.length = k := by rw [hrw.len, List.length_map, List.length_take]; omega
  refine bsplitd (fun hlt => ?_) (fun hge => ?_)
  · have hlt' : k < L.length := by omega
    have hx := hr _ (List.getElem_mem hlt')
    have kN := fun (w' : World) (hT : Tab (Hp.whole w')) => nodes_spec (L[k]'hlt') hx w' hT
    refine idx (cxg _) (e := 60) rfl hL k rfl hlt' (fun b o cs hcs hR hcell => ?_)
    subst hR
    refine ld1 (cxg _) (i := 0) rfl (hcell 0 _ rfl) rfl ?_
    refine callS (fun w' hm => kN w' (hT.mono (hm 0 _ rfl))) ?_
    rintro _ _ ⟨o4, rfl, rfl, ho4⟩ hsat2
    intro b5
    refine appO (f := Os.row) (cxg _) (e := 35) rfl (i := 1) rfl hoR (j := 4) o4 rfl rfl rfl rfl (by omega) (fun oR' hoR' => ?_)
    refine nw (by omega) (by omega) ?_
    refine ⟨(k + 1, oR', os ++ [o4], H.join o4.h), ⟨by dsimp only; omega, hoR', ?_⟩, by dsimp only; omega, Ent.mk (fun _ _ h => Ok.pick [0, 2, 1] rfl rfl (Ok.join (c := .hp (Hp.whole w)) (Ok.pick [0, 2, 3, 1] rfl rfl h))) rfl rfl⟩
    dsimp only
    rw [List.take_succ_eq_append_getElem hlt', List.map_append]
    exact hrw.push ho4 (hsat2.dj 2 3 rfl rfl (by decide))
  · rw [List.take_of_length_le (by omega)] at hrw
    have hh := Rws.sl (f := fI) (fun _ => rfl) (by decide) hrw hoR (hsat.dj 1 2 rfl rfl (by decide))
    exact ⟨[.hp (oR.h.join H)], ⟨oR.a, oR.n, oR.c, _, rfl, rfl, hh⟩, fun w' h => Ok.join (c := .hp (Hp.whole w)) (d := .hp oR.h) (e := .hp H) (s := []) (h.pick [0, 1, 2] rfl rfl)⟩
end Go.Proofs.YtbcjdjlihhlkaaaDoor
namespace Go.Proofs.YtbcjdjlihhlkaaaDoor
open Go Go.RowKit Go.Dw
def stepH (allow : Nat → Bool) (s : Nat) (out : List Nat) (h : Nat) : List Nat := if (s ||| h) ∈ out ∨ (s ||| h) = s ∨ allow (s ||| h) = false then out else out ++ [s ||| h]
def innS (allow : Nat → Bool) (H : List Nat) (s : Nat) (out : List Nat) : List Nat := H.foldl (stepH allow s) out
/-- what has come when i sets were taken from the queue -/
def bfsK (allow : Nat → Bool) (H : List Nat) : Nat → List Nat
  | 0 => []
  | i + 1 => match (0 :: bfsK allow H i)[i]? with
    | some s => innS allow H s (bfsK allow H i)
    | none => bfsK allow H i
def bfsF (allow : Nat → Bool) (H : List Nat) : List Nat := bfsK allow H 200
section
variable {allow : Nat → Bool} {H : List Nat}
theorem stepH_pre (s : Nat) (out : List Nat) (h : Nat) : out <+: stepH allow s out h := by
  unfold stepH; split
  · exact List.prefix_refl _
  · exact List.prefix_append _ _
theorem fold_pre (s : Nat) : ∀ (M out : List Nat), out <+: M.foldl (stepH allow s) out
  | [], _ => List.prefix_refl _
  | h :: M, out => (stepH_pre s out h).trans (fold_pre s M _)
theorem fold_take (s k : Nat) (M out : List Nat) : (M.take k).foldl (stepH allow s) out <+: M.foldl (stepH allow s) out := by
  have := fold_pre (allow := allow) s (M.drop k) ((M.take k).foldl (stepH allow s) out)
  rw [← List.foldl_append, List.take_append_drop] at this
  exact this
theorem bfs_pre1 (i : Nat) : bfsK allow H i <+: bfsK allow H (i + 1) := by
  rw [bfsK]
  split
  · exact fold_pre _ _ _
  · exact List.prefix_refl _
theorem bfs_pre {i j : Nat} (h : i ≤ j) : bfsK allow H i <+: bfsK allow H j := by
  induction j with
  | zero => have : i = 0 := by omega
            subst this; exact List.prefix_refl _
  | succ j ih =>
    by_cases e : i = j + 1
    · subst e; exact List.prefix_refl _
    · exact (ih (by omega)).trans (bfs_pre1 j)
def Fine (out : List Nat) : Prop := out.Nodup ∧ ∀ t ∈ out, t < 128
theorem or_lt128 {a b : Nat} (ha : a < 128) (hb : b < 128) : a ||| b < 128 := Nat.or_lt_two_pow (n := 7) ha hb
theorem stepH_fine {s : Nat} {out : List Nat} {h : Nat} (hf : Fine out) (hs : s < 128) (hh : h < 128) : Fine (stepH allow s out h) := by
  unfold stepH; split
  · exact hf
  · rename_i hn
    refine ⟨List.nodup_append.2 ⟨hf.1, by simp, fun a ha b hb e => hn (.inl ?_)⟩, fun t ht => ?_⟩
    · simp only [List.mem_singleton] at hb; rw [← hb, ← e]; exact ha
    · rcases List.mem_append.1 ht with ht | ht
      · exact hf.2 t ht
      · simp only [List.mem_singleton] at ht; rw [ht]; exact or_lt128 hs hh
theorem fold_fine {s : Nat} (hs : s < 128) : ∀ (M out : List Nat), Fine out → (∀ h ∈ M, h < 128) → Fine (M.foldl (stepH allow s) out)
  | [], _, hf, _ => hf
  | h :: M, out, hf, hm => fold_fine hs M (stepH allow s out h) (stepH_fine hf hs (hm h (by simp))) fun x hx => hm x (by simp [hx])
theorem bfs_fine (hH : ∀ h ∈ H, h < 128) : ∀ i, Fine (bfsK allow H i)
  | 0 => ⟨by simp [bfsK], by simp [bfsK]⟩
  | i + 1 => by
    have ih := bfs_fine hH i
    rw [bfsK]
    split
    · rename_i s hs
      refine fold_fine ?_ _ _ ih hH
      rcases List.mem_cons.1 (List.mem_of_getElem? hs) with rfl | h
      · decide
      · exact ih.2 _ h
    · exact ih
theorem nodup_lt : ∀ {n : Nat} {L : List Nat}, L.Nodup → (∀ t ∈ L, t < n) → L.length ≤ n
  | 0, [], _, _ => by simp
  | 0, x :: r, _, h => by have := h x (by simp); omega
  | n + 1, L, hn, h => by
    by_cases hm : n ∈ L
    · have := nodup_lt (n := n) (L := L.erase n) (hn.erase n) fun t ht => by
        have h1 := h t (List.mem_of_mem_erase ht)
        have h2 : t ≠ n := fun e => by subst e; exact (List.Nodup.not_mem_erase hn) ht
        omega
      rw [List.length_erase_of_mem hm] at this
      omega
    · have := nodup_lt (n := n) hn fun t ht => by
        have h1 := h t ht
        have h2 : t ≠ n := fun e => by subst e; exact hm ht
        omega
      omega
theorem fine_len {out : List Nat} (hf : Fine out) : out.length ≤ 128 := nodup_lt hf.1 hf.2
theorem bfs_stop {i : Nat} (h : (0 :: bfsK allow H i)[i]? = none) : ∀ j, i ≤ j → bfsK allow H j = bfsK allow H i
  | 0, hj => by have : i = 0 := by omega
                subst this; rfl
  | j + 1, hj => by
    by_cases e : i = j + 1
    · subst e; rfl
    · have ih := bfs_stop h j (by omega)
      have hn : (0 :: bfsK allow H j)[j]? = none := by
        rw [ih, List.getElem?_eq_none_iff] at *
        omega
      rw [bfsK, hn]
      exact ih
theorem bfs_end {i : Nat} (hi : i ≤ 200) (h : (0 :: bfsK allow H i).length ≤ i) : bfsK allow H i = bfsF allow H := by
  unfold bfsF
  rw [bfs_stop (List.getElem?_eq_none_iff.2 h) 200 hi]
end
/-- what the iterator reads -/
def RdC (bH bA : Nat) (a : Option Addr) (n c : Nat) (H : List Nat) (v : Value) (k : Hp) : Prop := k.cell? ⟨bH, 0, none⟩ = some (.slice a n c) ∧ Sl (encF fU) 1 k a n c H ∧ k.cell? ⟨bA, 0, none⟩ = some v
theorem RdC.mono {bH bA : Nat} {a : Option Addr} {n c : Nat} {H : List Nat} {v : Value} {h k : Hp} (hr : RdC bH bA a n c H v h) (l : h.le k) : RdC bH bA a n c H v k := ⟨l.cell hr.1, hr.2.1.mono (encF_mono _) l, l.cell hr.2.2⟩
theorem forceL_i {l : List Value} {q : List Value → Prop} (h : q l) : forceL l q := by rw [forceL_eq]; exact h
set_option maxRecDepth 10000 in
theorem closed1_spec {H : List Nat} (hH : ∀ h ∈ H, h < 128) (hHl : H.length < 1000000) (allow : Nat → Bool) {bH bA : Nat} {a : Option Addr} {n c : Nat} {fa : Nat} {first cap : List Value}
    (hfa : ∀ t, t < 128 → ∀ w', CallsE Tryd.prog fa (first ++ [Value.int .u64 (t : Nat)] ++ cap).toArray w' (RetV w' (.bool (allow t)))) :
    IterC Tryd.prog 56 [.pointer (some ⟨bH, 0, none⟩), .pointer (some ⟨bA, 0, none⟩)] fU (bfsF allow H) (RdC bH bA a n c H (.func (.func fa) ⟨first⟩ ⟨cap⟩)) := by
  intro w h l J Jx hin hRd hJ0 hY
  obtain ⟨r1, r2, r3⟩ := hRd
  have hn := r2.len
  obtain ⟨c0, hc0⟩ : ∃ c0, c0 = (Hp.whole w).minus h := ⟨_, rfl⟩
  refine enterYM (X := cx 54) (cxg _) (args := [.func (.yield l) #[] #[], .pointer (some ⟨bH, 0, none⟩), .pointer (some ⟨bA, 0, none⟩)]) hin [] Tryd.func56 rfl rfl rfl rfl rfl ?_
  rw [← hc0] at r1 r2 r3 hY ⊢
  refine mkM fun bm hm0 hom0 => ?_
  intro b11
  refine NeedL.mk (Nat × Dw.Os × Hp × Hp) (fun g => [(0, .v (.func (.yield l) #[] #[])), (1, .v (.pointer (some ⟨bH, 0, none⟩))), (2, .v (.pointer (some ⟨bA, 0, none⟩))), (4, .v (.map (some bm))), (5, .v g.2.1.v)])
    (fun g => [.hp c0, .hp g.2.2.2, .hp g.2.2.1, .hp g.2.1.h])
    (fun g => g.1 ≤ 200 ∧ OwnM g.2.2.1 bm (bfsK allow H g.1) ∧ OwnQ fU 60 1 g.2.1 ((0 :: bfsK allow H g.1).drop g.1) ∧ J (bfsK allow H g.1) g.2.2.2) (fun g => 200 - g.1)
    (0, ⟨some ⟨b11, 0, none⟩, 1, 1, (Ch.box b11 (fU 0) 60).h⟩, hm0, h)
    ⟨by dsimp only; omega, hom0, (OwnO.box (f := fU) (sz := 1) (T := 60) (fun _ => rfl) [0] rfl rfl (by decide)).q, hJ0⟩ (Ent.mk (fun _ _ h => Ok.same (i := 3) (c := .box b11 (fU 0) 60) (d := .hp (Ch.box b11 (fU 0) 60).h) rfl rfl h) rfl rfl) ?_
  rintro ⟨i, oQ, hm, h1⟩ ⟨hi, hom, hq, hJ⟩
  dsimp only at *
  have hql := hq.len
  have hfi := bfs_fine (allow := allow) hH i
  have hfl := fine_len hfi
  rw [List.length_drop, List.length_cons] at hql
  refine bsplitd (fun hlt => ?_) (fun hge => ?_)
  · have hil : i < (0 :: bfsK allow H i).length := by simp only [List.length_cons]; omega
    obtain ⟨s, hs⟩ : ∃ s, s = (0 :: bfsK allow H i)[i] := ⟨_, rfl⟩
    have hsg : (0 :: bfsK allow H i)[i]? = some s := by rw [List.getElem?_eq_getElem hil, hs]
    have hs128 : s < 128 := by
      rcases List.mem_cons.1 (List.mem_of_getElem? hsg) with h | h
      · omega
      · exact hfi.2 _ h
    rw [List.drop_eq_getElem_cons hil, ← hs] at hq
    have hqs := OwnQ.sl (f := fU) (fun _ => rfl) (by decide) hq
    refine idx (cxg _) (e := 60) rfl hqs 0 rfl (by simp) (fun b o cs hcs hR hcell => ?_)
    subst hR
    refine ld1 (cxg _) (i := 3) rfl (hcell 0 _ rfl) rfl ?_
    refine qtail (f := fU) (cxg _) (e := 60) rfl (fun _ => rfl) hq fun oq' hq' hqh => ?_
    refine ld1 (cxg _) (i := 0) rfl r1 rfl ?_
    have hbn : bfsK allow H (i + 1) = innS allow H s (bfsK allow H i) := by rw [bfsK, hsg]
    refine NeedL.mk (Nat × Dw.Os × Hp × Hp) (fun g => [(0, .v (.func (.yield l) #[] #[])), (1, .v (.pointer (some ⟨bH, 0, none⟩))), (2, .v (.pointer (some ⟨bA, 0, none⟩))), (4, .v (.map (some bm))), (5, .v g.2.1.v), (6, .v (.int .u64 (s : Nat))), (20, .v (.slice a n c)), (21, .v (.int .i64 n)), (22, .v (.int .i64 g.1))])
      (fun g => [.hp c0, .hp g.2.2.2, .hp g.2.2.1, .hp g.2.1.h])
      (fun g => g.1 ≤ n ∧ OwnM g.2.2.1 bm ((H.take g.1).foldl (stepH allow s) (bfsK allow H i)) ∧ OwnQ fU 60 1 g.2.1 ((0 :: (H.take g.1).foldl (stepH allow s) (bfsK allow H i)).drop (i + 1)) ∧ J ((H.take g.1).foldl (stepH allow s) (bfsK allow H i)) g.2.2.2) (fun g => n - g.1)
      (0, oq', hm, h1) ⟨Nat.zero_le _, hom, hq', hJ⟩ (Ent.mk (fun _ _ h => by rw [hqh]; exact h) rfl rfl) ?_
    clear hqh hq' hq hqs hom hJ hcell
    rintro ⟨k, oQ, hm, h1⟩ ⟨hk, hom, hq, hJ⟩
    dsimp only at *
    obtain ⟨out, hout⟩ : ∃ out, out = (H.take k).foldl (stepH allow s) (bfsK allow H i) := ⟨_, rfl⟩
    rw [← hout] at hom hq hJ
    have hof : Fine out := by rw [hout]; exact fold_fine hs128 _ _ hfi fun x hx => hH x (List.mem_of_mem_take hx)
    have hol := fine_len hof
    have hbo : (bfsK allow H i).length ≤ out.length := by rw [hout]; exact (fold_pre s (H.take k) (bfsK allow H i)).length_le
    refine bsplitd (fun hltk => ?_) (fun hgek => ?_)
    · have hkH : k < H.length := by omega
      have hh128 := hH _ (List.getElem_mem hkH)
      obtain ⟨t, ht⟩ : ∃ t, t = s ||| H[k] := ⟨_, rfl⟩
      have ht128 : t < 128 := by rw [ht]; exact or_lt128 hs128 hh128
      have hstep : (H.take (k + 1)).foldl (stepH allow s) (bfsK allow H i) = stepH allow s out H[k] := by
        rw [List.take_succ_eq_append_getElem hkH, List.foldl_append, ← hout]; rfl
      have hno : (t ∈ out ∨ t = s ∨ allow t = false) → (H.take (k + 1)).foldl (stepH allow s) (bfsK allow H i) = out := fun hb => by
        rw [hstep]; unfold stepH; rw [← ht, if_pos hb]
      have hyes : ¬ (t ∈ out ∨ t = s ∨ allow t = false) → (H.take (k + 1)).foldl (stepH allow s) (bfsK allow H i) = out ++ [t] := fun hb => by
        rw [hstep]; unfold stepH; rw [← ht, if_neg hb]
      refine idx (cxg _) (e := 60) rfl r2 k rfl hkH (fun b o cs hcs hR hcell => ?_)
      subst hR
      refine ld1 (cxg _) (i := 0) rfl (hcell 0 _ rfl) rfl ?_
      refine qOrU s H[k] rfl rfl (by omega) (by omega) ?_
      rw [← ht]
      have skip : (t ∈ out ∨ t = s ∨ allow t = false) → ∃ g' : Nat × Dw.Os × Hp × Hp, g' = (k + 1, oQ, hm, h1) ∧ (g'.1 ≤ n ∧ OwnM g'.2.2.1 bm ((H.take g'.1).foldl (stepH allow s) (bfsK allow H i)) ∧ OwnQ fU 60 1 g'.2.1 ((0 :: (H.take g'.1).foldl (stepH allow s) (bfsK allow H i)).drop (i + 1)) ∧ J ((H.take g'.1).foldl (stepH allow s) (bfsK allow H i)) g'.2.2.2) := fun hb =>
        ⟨_, rfl, by dsimp only; omega, by dsimp only; rw [hno hb]; exact hom, by dsimp only; rw [hno hb]; exact hq, by dsimp only; rw [hno hb]; exact hJ⟩
      refine lookM (i := 2) (h := hm) (L := out) rfl rfl (fun _ => rfl) rfl hom t ?_
      refine bsplitd (fun m1 => ?_) (fun m1 => ?_)
      · refine nw (by omega) (by omega) ?_
        obtain ⟨g', rfl, hg⟩ := skip (.inl m1)
        exact ⟨_, hg, by dsimp only; omega, Ent.mk (fun _ _ h => h) rfl rfl⟩
      refine bsplitd (fun m2 => ?_) (fun m2 => ?_)
      · refine nw (by omega) (by omega) ?_
        obtain ⟨g', rfl, hg⟩ := skip (.inr (.inl (by omega)))
        exact ⟨_, hg, by dsimp only; omega, Ent.mk (fun _ _ h => h) rfl rfl⟩
      refine ld1 (cxg _) (i := 0) rfl r3 rfl ?_
      refine forceL_i ?_
      refine callV _ (fun w' _ => hfa t ht128 w') ?_
      refine bsplit (fun m3 => ?_) (fun m3 => ?_)
      · refine nw (by omega) (by omega) ?_
        obtain ⟨g', rfl, hg⟩ := skip (.inr (.inr (by simpa using m3)))
        exact ⟨_, hg, by dsimp only; omega, Ent.mk (fun _ _ h => h) rfl rfl⟩
      clear skip
      have hnew : ¬ (t ∈ out ∨ t = s ∨ allow t = false) := by
        rintro (h | h | h)
        · exact m1 h
        · exact m2 (by omega)
        · rw [h] at m3; cases m3
      have hst := hyes hnew
      obtain ⟨post, hpost⟩ : ∃ post, bfsF allow H = out ++ t :: post := by
        have p1 : out ++ [t] <+: bfsK allow H (i + 1) := by
          rw [hbn, ← hst]
          exact fold_take s (k + 1) H (bfsK allow H i)
        obtain ⟨r, hr⟩ := p1.trans (bfs_pre (allow := allow) (H := H) (i := i + 1) (j := 200) (by omega))
        exact ⟨r, by unfold bfsF; rw [← hr]; simp⟩
      refine updM (i := 2) (h := hm) (L := out) rfl rfl rfl hom t m1 fun hm' hom' => ?_
      refine yieldQ (c := c0) (h1 := h1) rfl rfl (R := fun v h2 => (v = .bool true ∧ J (out ++ [t]) h2) ∨ (v = .bool false ∧ Jx (out ++ [t]) h2)) (fun w1 hi1 hc1 hd1 => hY w1 h1 out t post hpost hJ hi1 hc1 hd1) ?_
      rintro v h2 (⟨rfl, hJ2⟩ | ⟨rfl, hJ2⟩)
      · intro b51
        refine appQ (f := fU) (cxg _) (e := 60) rfl (i := 3) rfl hq (j := 4) t rfl rfl rfl rfl (by rw [List.length_drop, List.length_cons]; omega) fun oq3 hq3 => ?_
        refine nw (by omega) (by omega) ?_
        refine ⟨(k + 1, oq3, hm', h2), ⟨by dsimp only; omega, by dsimp only; rw [hst]; exact hom', ?_, by dsimp only; rw [hst]; exact hJ2⟩, by dsimp only; omega, Ent.mk (fun _ _ h => h.pick [0, 1, 2, 3] rfl rfl) rfl rfl⟩
        dsimp only
        rw [hst, show 0 :: (out ++ [t]) = (0 :: out) ++ [t] from rfl, List.drop_append_of_le_length (by simp only [List.length_cons]; omega)]
        exact hq3
      · exact ⟨h2, [], ⟨rfl, .inr ⟨out ++ [t], ⟨post, by rw [hpost]; simp⟩, hJ2⟩⟩, fun w' h => h.pick [0, 1] rfl rfl⟩
    · have hall : out = bfsK allow H (i + 1) := by rw [hout, hbn, List.take_of_length_le (by omega)]; rfl
      rw [hall] at hom hq hJ
      exact ⟨(i + 1, oQ, hm, h1), ⟨by dsimp only; omega, hom, hq, hJ⟩, by dsimp only; omega, Ent.mk (fun _ _ h => h) rfl rfl⟩
  · have hend := bfs_end (allow := allow) (H := H) hi (by simp only [List.length_cons]; omega)
    rw [hend] at hJ
    exact ⟨h1, [], ⟨rfl, .inl hJ⟩, fun w' h => h.pick [0, 1] rfl rfl⟩
end Go.Proofs.YtbcjdjlihhlkaaaDoor
