/- Laws for slices.Grow and slices.Concat: append of made zeros, cap, a box of rows. No condition of its own. -/
import Derived.Test.YtdjhgcpmipglfaaYDwk
import Derived.Lib.AppendZeros
namespace Go.Dw
open Go Go.RowKit
theorem nwEq {x y : Int} {q : Int → Prop} (h : x = y) (h1 : -9223372036854775808 ≤ y) (h2 : y ≤ 9223372036854775807) (hq : q y) : NeedW .i64 x q := by subst h; exact nw h1 h2 hq
section
variable {X : Ctx} {s : List Ch}
/-- append(nil, make(n)...): an owned row, of which no element is used yet -/
theorem appZ (hX : X.Good) {T e tn ty : Nat} {te ti : TI} (hT : elsz X T = some (e, te)) (hti : tget X.tt tn = some ti) {kn k : IntKind} (hk : ti.k = .int kn) (n : Nat) {x : Int} (hx : x = n) (h0 : 0 < n) (hsz : Nat.blt 0 te.size = true) (hby : n * te.bytes ≤ 140737488355328) (hn : n ≤ maxLen) {q : TV → List Ch → Prop}
    (hq : ∀ b c h', Own e te.size h' (some ⟨b, 0, none⟩) 0 c [] → n ≤ c → q (.v (.slice (some ⟨b, 0, none⟩) n c)) (s ++ [.hp h'])) :
    NeedA X.P s #[T, tn] ty (.slice none 0 0) (.v (.int k x)) q := by
  subst hx
  obtain ⟨hu, hg⟩ := elsz_spec hX hT
  obtain ⟨⟨inf, hinf, hs1, hs2, z, hz, hzc, hzl⟩, _⟩ := hg
  have hui : X.P.underlying tn = some (.int kn) := by
    have := (Good.und hX hti).2
    rw [hk] at this; exact this
  have hpos : 0 < te.size := Nat.le_of_ble_eq_true hsz
  refine ⟨.int k n, rfl, ⟨fun w0 w hok => ?_⟩⟩
  have hmx : n ≤ 9223372036854775807 := by simp only [maxLen] at hn; omega
  have hr := Lib.run_append_nil_zeros (P := X.P) w T tn ty e inf z k kn hu hui hinf hz n h0 (by rw [hs1]; exact hpos) (by omega) (by rw [hs2]; omega)
  have hge := grownCap_ge w n 0 e
  have hcm := grownCap_le_maxLen w n 0 e hn
  refine ⟨.v _, _, _, _, hr, hok.drew.alloc (.hp (Hp.one w.heap.size _)) _ rfl, Keep.app s _, rfl, hq w.heap.size _ _ ⟨by simp, .inr ⟨_, _, rfl, Hp.one_self _ _, Nat.zero_le _, hcm, ?_, by simp⟩⟩ hge⟩
  simp only [Array.size_append, size_zeroCells, hzc, List.size_toArray, hzl, ← Nat.add_mul]
  congr 1; omega
/-- cap(s) -/
theorem capS (hX : X.Good) {T ty : Nat} {te : TI} {e : Nat} (hT : elsz X T = some (e, te)) {a : Option Addr} {n c : Nat} {q : TV → List Ch → Prop} (hq : q (.v (.int .i64 c)) s) :
    NeedE X.P s (Builtin.cap_ #[T] ty #[.slice a n c]) q := by
  obtain ⟨hu, _⟩ := elsz_spec hX hT
  refine ⟨fun w0 w hok => ⟨.v _, _, w, s, ?_, hok, Keep.refl s, rfl, hq⟩⟩
  simp [Builtin.cap_, run_underlying hu, goInt]
end
/-- a box whose cells are rows that can be read -/
theorem Sl.boxG {α : Type} {R : Enc α} {sz : Nat} {b T : Nat} {cs : List Value} {w : World} (hh : (Ch.box b cs T).h.In w) {LL : List (List α)} (hl : cs.length = LL.length) (hr : ∀ (i : Nat) v L, cs[i]? = some v → LL[i]? = some L → encS R sz (Hp.whole w) L [v]) {n : Nat} (hn : n = cs.length) : Sl (encS R sz) 1 (Hp.whole w) (some ⟨b, 0, none⟩) n n LL := by
  refine ⟨by omega, Nat.le_refl _, fun i hi => ?_⟩
  have hi' : i < cs.length := by omega
  refine ⟨b, 0, [cs[i]], rfl, rfl, hr i _ _ (List.getElem?_eq_getElem hi') (List.getElem?_eq_getElem hi), fun j v hj => ?_⟩
  obtain rfl : j = 0 := by
    have := (List.getElem?_eq_some_iff.1 hj).1
    simpa using this
  cases hj
  have h1 : (Ch.box b cs T).h.cell? ⟨b, i, none⟩ = some cs[i] := by
    simp [Ch.h, Hp.cell?, Hp.one, hi']
  rw [show 0 + i * 1 + 0 = i by omega]
  exact Hp.le.cell hh h1
end Go.Dw
