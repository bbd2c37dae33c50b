/- Numbers of 64 bits without a sign: operations on their bits; contracts of math/bits' functions. Each theorem's premises are its own. -/
import Derived.Test.YtnlkffccobdbjaaGreatXD
import Derived.Test.YtnlkffccobdbjaaGreatXB
import Derived.Laws.Bits64b
import Derived.Lib.TrailingZeros
namespace Go.Dw
open Go Go.RowKit
theorem wrapU (z : Int) : IntKind.u64.wrap z = z % 18446744073709551616 := IntKind.wrap_u64 z
theorem nwM {x y : Int} {q : Int → Prop} (h : x % 18446744073709551616 = y) (hq : q y) : NeedW .u64 x q := ⟨y, by rw [wrapU, h], hq⟩
section
variable {P : Program} {s : List Ch} {xo yo : Operand} {ty : Nat} {q : TV → Prop}
theorem qAndU (a b : Nat) {x y : Int} (hx : x = a) (hy : y = b) (ha : a < 18446744073709551616) (hb : b < 18446744073709551616) (h : q (.v (.int .u64 ((a &&& b : Nat) : Int)))) : NeedQ P s (binOp .and ty (.int .u64 x) (.int .u64 y)) q := by
  subst hx hy
  exact ⟨_, fun w _ => by show Result.ok (Value.int .u64 (bits .and .u64 a b)) w = _; rw [bits_and_u64_nat a b ha hb], h⟩
theorem qOrU (a b : Nat) {x y : Int} (hx : x = a) (hy : y = b) (ha : a < 18446744073709551616) (hb : b < 18446744073709551616) (h : q (.v (.int .u64 ((a ||| b : Nat) : Int)))) : NeedQ P s (binOp .or ty (.int .u64 x) (.int .u64 y)) q := by
  subst hx hy
  exact ⟨_, fun w _ => by show Result.ok (Value.int .u64 (bits .or .u64 a b)) w = _; rw [bits_or_u64_nat a b ha hb], h⟩
theorem bits_andNot_u64 (a b : Nat) (ha : a < 18446744073709551616) (hb : b < 18446744073709551616) : bits .andNot .u64 (a : Int) (b : Int) = ((a &&& (18446744073709551615 - b) : Nat) : Int) := by
  have hx : a &&& (18446744073709551615 - b) < 2 ^ 64 := Nat.and_lt_two_pow _ (by omega)
  have h1 : (BitVec.ofInt 64 (a : Int)).toNat = a := by
    rw [BitVec.ofInt_natCast, BitVec.toNat_ofNat]; exact Nat.mod_eq_of_lt (by omega)
  have h2 : (BitVec.ofInt 64 (b : Int)).toNat = b := by
    rw [BitVec.ofInt_natCast, BitVec.toNat_ofNat]; exact Nat.mod_eq_of_lt (by omega)
  show IntKind.u64.wrap ((BitVec.ofInt 64 (a : Int) &&& ~~~ BitVec.ofInt 64 (b : Int)).toNat : Int) = _
  rw [BitVec.toNat_and, BitVec.toNat_not, h1, h2, wrapU]
  have : (2 : Nat) ^ 64 - 1 - b = 18446744073709551615 - b := rfl
  rw [this]
  omega
theorem qAndNotU (a b : Nat) {x y : Int} (hx : x = a) (hy : y = b) (ha : a < 18446744073709551616) (hb : b < 18446744073709551616) (h : q (.v (.int .u64 ((a &&& (18446744073709551615 - b) : Nat) : Int)))) : NeedQ P s (binOp .andNot ty (.int .u64 x) (.int .u64 y)) q := by
  subst hx hy
  exact ⟨_, fun w _ => by show Result.ok (Value.int .u64 (bits .andNot .u64 a b)) w = _; rw [bits_andNot_u64 a b ha hb], h⟩
theorem pow_lt64 {n : Nat} (hn : n < 64) : 2 ^ n < 18446744073709551616 := Nat.lt_of_lt_of_le (Nat.pow_lt_pow_right (by decide) hn) (by decide)
theorem qShlU (n : Nat) {x y : Int} (hx : x = 1) (hy : y = n) (hn : n < 64) (h : q (.v (.int .u64 ((2 ^ n : Nat) : Int)))) : NeedQ P s (do eqGuard .shl ty xo yo (.int .u64 x) (.int .i64 y); binOp .shl ty (.int .u64 x) (.int .i64 y)) q := by
  subst hx hy
  refine ⟨_, fun w _ => ?_, h⟩
  have hp := pow_lt64 hn
  have h1 : (eqGuard .shl ty xo yo (.int .u64 1) (.int .i64 n)).run P w = .ok () w := by simp [eqGuard]
  rw [Sem.run_bind, h1, Result.andThen_ok]
  show (Op.shift .shl .u64 1 .i64 n).run P w = _
  have h0 : ¬ (n : Int) < 0 := by omega
  have hm : min (n : Int).toNat IntKind.u64.bits = n := by show min n 64 = n; omega
  unfold Op.shift
  rw [if_neg h0]
  dsimp only
  rw [hm, wrapU, Int.one_mul]
  have e : ((2 : Int) ^ n) = ((2 ^ n : Nat) : Int) := by simp
  rw [e, show ((2 ^ n : Nat) : Int) % 18446744073709551616 = ((2 ^ n : Nat) : Int) from Int.emod_eq_of_lt (Int.natCast_nonneg _) (Int.ofNat_lt.2 hp)]
  rfl
theorem shr_run (a n : Nat) (k : IntKind) (hn : n < 64) (w : World) : (Op.shift .shr .u64 a k n).run P w = .ok (.int .u64 ((a >>> n : Nat) : Int)) w := by
  have h0 : ¬ (n : Int) < 0 := by omega
  have hm : min (n : Int).toNat IntKind.u64.bits = n := by show min n 64 = n; omega
  unfold Op.shift
  rw [if_neg h0]
  dsimp only
  rw [hm, Int.fdiv_eq_ediv_of_nonneg _ (by have := Nat.two_pow_pos n; simp only [Int.pow_nonneg (by decide : (0 : Int) ≤ 2)]), Nat.shiftRight_eq_div_pow]
  have e : ((2 : Int) ^ n) = ((2 ^ n : Nat) : Int) := by simp
  rw [e]
  rfl
theorem qShrU (a n : Nat) {x y : Int} (hx : x = a) (hy : y = n) (hn : n < 64) (h : q (.v (.int .u64 ((a >>> n : Nat) : Int)))) : NeedQ P s (do eqGuard .shr ty xo yo (.int .u64 x) (.int .i64 y); binOp .shr ty (.int .u64 x) (.int .i64 y)) q := by
  subst hx hy
  refine ⟨_, fun w _ => ?_, h⟩
  have h1 : (eqGuard .shr ty xo yo (.int .u64 a) (.int .i64 n)).run P w = .ok () w := by simp [eqGuard]
  rw [Sem.run_bind, h1, Result.andThen_ok]
  exact shr_run a n .i64 hn w
theorem qShrUU (a n : Nat) {x y : Int} (hx : x = a) (hy : y = n) (hn : n < 64) (h : q (.v (.int .u64 ((a >>> n : Nat) : Int)))) : NeedQ P s (binOp .shr ty (.int .u64 x) (.int .u64 y)) q := by
  subst hx hy
  exact ⟨_, fun w _ => shr_run a n .u64 hn w, h⟩
theorem wrapI {z : Nat} (h : z < 9223372036854775808) : IntKind.i64.wrap (z : Int) = z := by rw [IntKind.wrap_i64]; omega
theorem bits_and_i64 (a b : Nat) (ha : a < 9223372036854775808) (hb : b < 9223372036854775808) : bits .and .i64 (a : Int) (b : Int) = ((a &&& b : Nat) : Int) := by
  have hx : a &&& b < 2 ^ 63 := Nat.and_lt_two_pow _ (by omega)
  have h1 : (BitVec.ofInt 64 (a : Int)).toNat = a := by
    rw [BitVec.ofInt_natCast, BitVec.toNat_ofNat]; exact Nat.mod_eq_of_lt (by omega)
  have h2 : (BitVec.ofInt 64 (b : Int)).toNat = b := by
    rw [BitVec.ofInt_natCast, BitVec.toNat_ofNat]; exact Nat.mod_eq_of_lt (by omega)
  show IntKind.i64.wrap ((BitVec.ofInt 64 (a : Int) &&& BitVec.ofInt 64 (b : Int)).toNat : Int) = _
  rw [BitVec.toNat_and, h1, h2]
  exact wrapI hx
theorem bits_or_i64 (a b : Nat) (ha : a < 9223372036854775808) (hb : b < 9223372036854775808) : bits .or .i64 (a : Int) (b : Int) = ((a ||| b : Nat) : Int) := by
  have hx : a ||| b < 2 ^ 63 := Nat.or_lt_two_pow (by omega) (by omega)
  have h1 : (BitVec.ofInt 64 (a : Int)).toNat = a := by
    rw [BitVec.ofInt_natCast, BitVec.toNat_ofNat]; exact Nat.mod_eq_of_lt (by omega)
  have h2 : (BitVec.ofInt 64 (b : Int)).toNat = b := by
    rw [BitVec.ofInt_natCast, BitVec.toNat_ofNat]; exact Nat.mod_eq_of_lt (by omega)
  show IntKind.i64.wrap ((BitVec.ofInt 64 (a : Int) ||| BitVec.ofInt 64 (b : Int)).toNat : Int) = _
  rw [BitVec.toNat_or, h1, h2]
  exact wrapI hx
theorem qAndI (a b : Nat) {x y : Int} (hx : x = a) (hy : y = b) (ha : a < 9223372036854775808) (hb : b < 9223372036854775808) (h : q (.v (.int .i64 ((a &&& b : Nat) : Int)))) : NeedQ P s (binOp .and ty (.int .i64 x) (.int .i64 y)) q := by
  subst hx hy
  exact ⟨_, fun w _ => by show Result.ok (Value.int .i64 (bits .and .i64 a b)) w = _; rw [bits_and_i64 a b ha hb], h⟩
theorem qOrI (a b : Nat) {x y : Int} (hx : x = a) (hy : y = b) (ha : a < 9223372036854775808) (hb : b < 9223372036854775808) (h : q (.v (.int .i64 ((a ||| b : Nat) : Int)))) : NeedQ P s (binOp .or ty (.int .i64 x) (.int .i64 y)) q := by
  subst hx hy
  exact ⟨_, fun w _ => by show Result.ok (Value.int .i64 (bits .or .i64 a b)) w = _; rw [bits_or_i64 a b ha hb], h⟩
theorem qShlI (n : Nat) {x y : Int} (hx : x = 1) (hy : y = n) (hn : n < 63) (h : q (.v (.int .i64 ((2 ^ n : Nat) : Int)))) : NeedQ P s (binOp .shl ty (.int .i64 x) (.int .i64 y)) q := by
  subst hx hy
  refine ⟨_, fun w _ => ?_, h⟩
  have hp : 2 ^ n < 9223372036854775808 := Nat.lt_of_lt_of_le (Nat.pow_lt_pow_right (by decide) hn) (by decide)
  show (Op.shift .shl .i64 1 .i64 n).run P w = _
  have h0 : ¬ (n : Int) < 0 := by omega
  have hm : min (n : Int).toNat IntKind.i64.bits = n := by show min n 64 = n; omega
  unfold Op.shift
  rw [if_neg h0]
  dsimp only
  have e : ((2 : Int) ^ n) = ((2 ^ n : Nat) : Int) := by simp
  rw [hm, Int.one_mul, e, wrapI hp]
  rfl
theorem qShrI (a n : Nat) {x y : Int} (hx : x = a) (hy : y = n) (hn : n < 64) (h : q (.v (.int .i64 ((a >>> n : Nat) : Int)))) : NeedQ P s (binOp .shr ty (.int .i64 x) (.int .i64 y)) q := by
  subst hx hy
  refine ⟨_, fun w _ => ?_, h⟩
  show (Op.shift .shr .i64 a .i64 n).run P w = _
  have h0 : ¬ (n : Int) < 0 := by omega
  have hm : min (n : Int).toNat IntKind.i64.bits = n := by show min n 64 = n; omega
  unfold Op.shift
  rw [if_neg h0]
  dsimp only
  rw [hm, Int.fdiv_eq_ediv_of_nonneg _ (by have := Nat.two_pow_pos n; simp only [Int.pow_nonneg (by decide : (0 : Int) ≤ 2)]), Nat.shiftRight_eq_div_pow]
  have e : ((2 : Int) ^ n) = ((2 ^ n : Nat) : Int) := by simp
  rw [e]
  rfl
end
end Go.Dw
namespace Go.Proofs.YtnlkffccobdbjaaGreat
open Go Go.RowKit Go.Dw
def onesF (x : Nat) : Nat :=
  let a := ((x >>> 1) &&& 6148914691236517205) + (x &&& 6148914691236517205)
  let b := ((a >>> 2) &&& 3689348814741910323) + (a &&& 3689348814741910323)
  let c := ((b >>> 4) + b) &&& 1085102592571150095
  let d := c + (c >>> 8)
  let e := d + (d >>> 16)
  let f := e + (e >>> 32)
  f &&& 127
end Go.Proofs.YtnlkffccobdbjaaGreat
