/- Reading texts and calls among a law's arguments; the library's table of blanks off the row's listed variables; the witness's world. No condition of its own. -/
import Derived.Test.YtoholjdojdmbkaaGreatDoorXN
import Derived.Test.YtoholjdojdmbkaaGreatDoorXM
import Derived.LaidMore
import Derived.OpenShut
import Derived.Stop.Joined
import Derived.MakeChecks
import Derived.LaidSub
import Derived.Lay
import Derived.LaidOnce
import Derived.ChangeMaps5
namespace Go.Dw
open Go Go.RowKit Go.ChangeShapes Go.WideShapes Go.ChangeAt
section
variable {H : Type} {enc : TypeId × Value → H} {P : Program} {W : World} {sp : Nat → Bool} {held : Bool}
theorem mapM_get {α β : Type} {g : α → Option β} : ∀ {l : List α} {cs : List β}, l.mapM g = some cs → cs.length = l.length ∧ ∀ (j : Nat) (v : β), cs[j]? = some v → ∃ i, l[j]? = some i ∧ g i = some v
  | [], cs, h => by
    rw [List.mapM_nil] at h
    cases h
    exact ⟨rfl, fun j v h => by simp at h⟩
  | x :: l, cs, h => by
    simp only [List.mapM_cons, Option.bind_eq_bind, Option.bind_eq_some_iff, Option.pure_def, Option.some.injEq] at h
    obtain ⟨y, hy, ys, hys, rfl⟩ := h
    obtain ⟨h1, h2⟩ := mapM_get hys
    refine ⟨by simp [h1], fun j v hj => ?_⟩
    match j, hj with
    | 0, hj => cases hj; exact ⟨x, rfl, hy⟩
    | j + 1, hj => exact h2 j v hj
/-- a slice whose elements read each as one of α -/
theorem open_sliceR {α : Type} [Inhabited α] {R : Enc α} {t e : TypeId} {n : Nat} (ht : P.underlying t = some (.slice e)) (hc : P.cellsOf e = n) (hn : 0 < n)
    (hf : ∀ fuel cs (y : DataW H × List MemPlace), DataW.trod enc P W 0 sp held fuel e cs = some y → ∃ x : α, R (Hp.whole W) x cs)
    {fuel : Nat} {cs : List Value} {y : DataW H × List MemPlace} (h : DataW.trod enc P W 0 sp held fuel t cs = some y) :
    ∃ a m c L, cs = [.slice a m c] ∧ Sl R n (Hp.whole W) a m c L := by
  rcases DataW.trod_slice ht h with ⟨h0, _⟩ | ⟨a, len, cap, elems, rest, k, _, rfl, _, hb, hl, _, hlen, hel, _, _⟩
  · exact ⟨none, 0, 0, [], h0, Sl.nil _ _ _ _ _⟩
  rw [hc] at hel
  have each : ∀ i, i < len → ∃ (x : α × List Value), R (Hp.whole W) x.1 x.2 ∧ x.2.length = n ∧ ∀ j v, x.2[j]? = some v → W.cell? ((a.add (i * n)).add j) = some v := by
    intro i hi
    have h1 := hel i hi
    rw [List.getElem?_eq_getElem (by omega), Option.bind_eq_some_iff] at h1
    obtain ⟨cs', hcs, hy⟩ := h1
    obtain ⟨x, hx⟩ := hf _ _ _ hy
    unfold World.cells? at hcs
    rw [if_pos (Nat.zero_le _)] at hcs
    obtain ⟨g1, g2⟩ := mapM_get hcs
    rw [List.length_range] at g1
    refine ⟨(x, cs'), hx, g1, fun j v hj => ?_⟩
    obtain ⟨q, hq, hv⟩ := g2 j v hj
    have hjn : j < n := by rw [← g1]; exact (List.getElem?_eq_some_iff.1 hj).1
    rw [List.getElem?_range hjn] at hq
    cases hq
    exact hv
  obtain ⟨g, hg⟩ : ∃ g : Nat → α × List Value, ∀ i, i < len → R (Hp.whole W) (g i).1 (g i).2 ∧ (g i).2.length = n ∧ ∀ j v, (g i).2[j]? = some v → W.cell? ((a.add (i * n)).add j) = some v := by
    refine ⟨fun i => if h : i < len then (each i h).choose else (default, []), fun i hi => ?_⟩
    simp only [hi, ↓reduceDIte]
    exact (each i hi).choose_spec
  refine ⟨some a, len, cap, (List.range len).map fun i => (g i).1, rfl, by simp, hl, fun i hi => ?_⟩
  simp only [List.length_map, List.length_range] at hi
  obtain ⟨b, off, rfl⟩ : ∃ b off, a = ⟨b, off, none⟩ := by
    obtain ⟨_, h1, h2⟩ := hg 0 (by omega)
    have := h2 0 _ (List.getElem?_eq_getElem (by omega))
    rw [Nat.zero_mul] at this
    simp only [Addr.add, ↓reduceIte] at this
    exact cell_spot this
  obtain ⟨h0, h1, h2⟩ := hg i hi
  refine ⟨b, off, (g i).2, rfl, h1, by simpa using h0, fun j v hj => ?_⟩
  have := h2 j v hj
  rw [Addr.add_mk, Addr.add_mk] at this
  exact this
theorem trod_fld {t : TypeId} {fs : Array Field} {fuel : Nat} {cs : List Value} {x : DataW H × List MemPlace} (ht : P.underlying t = some (.struct fs)) (h : DataW.trod enc P W 0 sp held fuel t cs = some x) :
    cs.length = P.cellsOf t ∧ ∃ n, ∀ (i : Nat) (f : Field), fs[i]? = some f → ∃ y, DataW.trod enc P W 0 sp held n f.type ((cs.drop f.offset).take (P.cellsOf f.type)) = some y := by
  obtain ⟨xs, n, _, rfl, hl, hlen, hf⟩ := DataW.trod_struct ht h
  refine ⟨hl, n, fun i f hi => ?_⟩
  have h1 := hf i f hi
  have hi' : i < xs.length := by rw [hlen]; exact (Array.getElem?_eq_some_iff.1 hi).1
  rw [List.getElem?_eq_getElem hi'] at h1
  exact ⟨_, h1⟩
theorem trod_fld2 {t : TypeId} {F0 F1 : Field} {fuel : Nat} {cs : List Value} {x : DataW H × List MemPlace} (ht : P.underlying t = some (.struct #[F0, F1])) (h : DataW.trod enc P W 0 sp held fuel t cs = some x) :
    cs.length = P.cellsOf t ∧ ∃ n, (∃ y, DataW.trod enc P W 0 sp held n F0.type ((cs.drop F0.offset).take (P.cellsOf F0.type)) = some y) ∧ (∃ y, DataW.trod enc P W 0 sp held n F1.type ((cs.drop F1.offset).take (P.cellsOf F1.type)) = some y) := by
  obtain ⟨h1, n, h2⟩ := trod_fld ht h
  exact ⟨h1, n, h2 0 F0 rfl, h2 1 F1 rfl⟩
theorem trod_fld3 {t : TypeId} {F0 F1 F2 : Field} {fuel : Nat} {cs : List Value} {x : DataW H × List MemPlace} (ht : P.underlying t = some (.struct #[F0, F1, F2])) (h : DataW.trod enc P W 0 sp held fuel t cs = some x) :
    cs.length = P.cellsOf t ∧ ∃ n, (∃ y, DataW.trod enc P W 0 sp held n F0.type ((cs.drop F0.offset).take (P.cellsOf F0.type)) = some y) ∧ (∃ y, DataW.trod enc P W 0 sp held n F1.type ((cs.drop F1.offset).take (P.cellsOf F1.type)) = some y) ∧ (∃ y, DataW.trod enc P W 0 sp held n F2.type ((cs.drop F2.offset).take (P.cellsOf F2.type)) = some y) := by
  obtain ⟨h1, n, h2⟩ := trod_fld ht h
  exact ⟨h1, n, h2 0 F0 rfl, h2 1 F1 rfl, h2 2 F2 rfl⟩
theorem trod_fld4 {t : TypeId} {F0 F1 F2 F3 : Field} {fuel : Nat} {cs : List Value} {x : DataW H × List MemPlace} (ht : P.underlying t = some (.struct #[F0, F1, F2, F3])) (h : DataW.trod enc P W 0 sp held fuel t cs = some x) :
    cs.length = P.cellsOf t ∧ ∃ n, (∃ y, DataW.trod enc P W 0 sp held n F0.type ((cs.drop F0.offset).take (P.cellsOf F0.type)) = some y) ∧ (∃ y, DataW.trod enc P W 0 sp held n F1.type ((cs.drop F1.offset).take (P.cellsOf F1.type)) = some y) ∧ (∃ y, DataW.trod enc P W 0 sp held n F2.type ((cs.drop F2.offset).take (P.cellsOf F2.type)) = some y) ∧ (∃ y, DataW.trod enc P W 0 sp held n F3.type ((cs.drop F3.offset).take (P.cellsOf F3.type)) = some y) := by
  obtain ⟨h1, n, h2⟩ := trod_fld ht h
  exact ⟨h1, n, h2 0 F0 rfl, h2 1 F1 rfl, h2 2 F2 rfl, h2 3 F3 rfl⟩
theorem len2 {cs : List Value} (h : cs.length = 2) : ∃ p q, cs = [p, q] := by
  match cs, h with
  | [p, q], _ => exact ⟨p, q, rfl⟩
theorem len3 {cs : List Value} (h : cs.length = 3) : ∃ p q s, cs = [p, q, s] := by
  match cs, h with
  | [p, q, s], _ => exact ⟨p, q, s, rfl⟩
theorem len4 {cs : List Value} (h : cs.length = 4) : ∃ p q s u, cs = [p, q, s, u] := by
  match cs, h with
  | [p, q, s, u], _ => exact ⟨p, q, s, u, rfl⟩
theorem trod_fld5 {t : TypeId} {F0 F1 F2 F3 F4 : Field} {fuel : Nat} {cs : List Value} {x : DataW H × List MemPlace} (ht : P.underlying t = some (.struct #[F0, F1, F2, F3, F4])) (h : DataW.trod enc P W 0 sp held fuel t cs = some x) :
    cs.length = P.cellsOf t ∧ ∃ n, (∃ y, DataW.trod enc P W 0 sp held n F0.type ((cs.drop F0.offset).take (P.cellsOf F0.type)) = some y) ∧ (∃ y, DataW.trod enc P W 0 sp held n F1.type ((cs.drop F1.offset).take (P.cellsOf F1.type)) = some y) ∧ (∃ y, DataW.trod enc P W 0 sp held n F2.type ((cs.drop F2.offset).take (P.cellsOf F2.type)) = some y) ∧ (∃ y, DataW.trod enc P W 0 sp held n F3.type ((cs.drop F3.offset).take (P.cellsOf F3.type)) = some y) ∧ (∃ y, DataW.trod enc P W 0 sp held n F4.type ((cs.drop F4.offset).take (P.cellsOf F4.type)) = some y) := by
  obtain ⟨h1, n, h2⟩ := trod_fld ht h
  exact ⟨h1, n, h2 0 F0 rfl, h2 1 F1 rfl, h2 2 F2 rfl, h2 3 F3 rfl, h2 4 F4 rfl⟩
theorem len5 {cs : List Value} (h : cs.length = 5) : ∃ p q s u z, cs = [p, q, s, u, z] := by
  match cs, h with
  | [p, q, s, u, z], _ => exact ⟨p, q, s, u, z, rfl⟩
theorem oct_bounds {n : Int} (h : (Lit.int .u8 n).wf = true) : 0 ≤ n ∧ n ≤ 255 := by
  simp only [Lit.wf, Bool.and_eq_true, decide_eq_true_eq] at h
  have h1 : IntKind.u8.min = 0 := rfl
  have h2 : IntKind.u8.max = 255 := rfl
  omega
theorem i64_bounds {n : Int} (h : (Lit.int .i64 n).wf = true) : -9223372036854775808 ≤ n ∧ n ≤ 9223372036854775807 := by
  simp only [Lit.wf, Bool.and_eq_true, decide_eq_true_eq] at h
  have h1 : IntKind.i64.min = -9223372036854775808 := rfl
  have h2 : IntKind.i64.max = 9223372036854775807 := rfl
  omega
end
end Go.Dw
namespace Go.Proofs.YtoholjdojdmbkaaGreatDoor
open Go Go.RowKit Go.Dw Go.ChangeShapes Go.WideShapes Go.ChangeAt
/-- the listed variables -/
def lxLaid : List (String × DataW Unit) := [("math/bits.deBruijn32tab", Rows.laid_math_bits_deBruijn32tab), ("math/bits.deBruijn64tab", Rows.laid_math_bits_deBruijn64tab), ("internal/strconv.uint64pow10", Rows.laid_internal_strconv_uint64pow10), ("unicode/utf8.acceptRanges", Rows.laid_unicode_utf8_acceptRanges), ("strconv.ErrRange", Rows.laid_strconv_ErrRange), ("strconv.ErrSyntax", Rows.laid_strconv_ErrSyntax), ("unicode.White_Space", Rows.laid_unicode_White_Space), ("strings.asciiSpace", Rows.laid_strings_asciiSpace), ("unicode/utf8.first", Rows.laid_unicode_utf8_first)]
set_option maxRecDepth 100000 in
theorem lx_shaped (os : Os) (args : Array Value) : ((World.laidAll Tryz.prog os lxLaid).forCall (fun _ _ => 0) ⟨#[], args, []⟩).Shaped Tryz.prog := World.shaped_of_ZipB (by kernel_rfl) (by kernel_rfl)
set_option maxRecDepth 100000 in
theorem lx_met (os : Os) (args : Array Value) : laidMetH Tryz.prog lxLaid ((World.laidAll Tryz.prog os lxLaid).forCall (fun _ _ => 0) ⟨#[], args, []⟩).memory := by
  rw [MakeChecks.laidMetH_plain _ _ _ (by kernel_rfl)]; exact laidMet_laidAll _ (by kernel_rfl) (by kernel_rfl)
theorem spGlobal : Tryz.prog.globalNamed "strings.asciiSpace" = some 0 := by kernel_rfl
theorem spType : (Tryz.prog.globals[0]?).map (·.type) = some 180 := by kernel_rfl
theorem spDatum : (Rows.laid_strings_asciiSpace : DataW Unit) = .agg ((List.range 256).map fun n : Nat => .lit (.int .u8 (if Lib.isSp (UInt8.ofNat n) then 1 else 0))) := by kernel_rfl
set_option maxRecDepth 100000 in
theorem tabS_of_laid {W : World} (hh : laidMetH Tryz.prog lxLaid W) : TabS (Hp.whole W) := by
  have h : laidMetH Tryz.prog [("strings.asciiSpace", Rows.laid_strings_asciiSpace)] W := hh.filter fun x => x.1 == "strings.asciiSpace"
  rw [MakeChecks.laidMetH_plain _ _ _ (by kernel_rfl)] at h
  obtain ⟨ps, ⟨g0, t0, cs0, f0, p0, q0, hg0, ht0, hv0, hd0, _, _⟩, _, _⟩ := h
  obtain rfl := Option.some.inj (spGlobal.symm.trans hg0)
  obtain rfl := Option.some.inj (spType.symm.trans ht0)
  obtain ⟨xs, m1, rfl, hx1, hlen, hn, hel⟩ := DataW.trod_array Tryz.underlying180 hd0
  have ce : Tryz.prog.cellsOf 5 = 1 := by kernel_rfl
  simp only [Prod.mk.injEq] at hx1
  rw [spDatum, DataW.agg.injEq] at hx1
  intro j hj
  have h0 := hel j hj
  rw [ce, Nat.mul_one] at h0
  have hjx : j < xs.length := by omega
  rw [List.getElem?_eq_getElem hjx] at h0
  obtain ⟨n, e1, e2, _⟩ := DataW.trod_int Tryz.underlying5 h0
  have hd : (xs.map (·.1))[j]? = some (.lit (.int .u8 n)) := by
    rw [List.getElem?_map, List.getElem?_eq_getElem hjx, e2]; rfl
  rw [← hx1.1, List.getElem?_map, List.getElem?_range hj] at hd
  have hn2 : (if Lib.isSp (UInt8.ofNat j) then (1 : Int) else 0) = n := by
    simpa using hd
  have hc := World.var?_cell hg0 hv0 j
  have hcj : cs0[j]? = some (.int .u8 n) := by
    have := congrArg (·[0]?) e1
    simp only [List.getElem?_cons_zero, List.getElem?_take_of_lt (show 0 < 1 by decide), List.getElem?_drop, Nat.add_zero, Array.getElem?_toList] at this
    exact this
  rw [hcj] at hc
  rw [hn2]
  exact hc
section
variable {H : Type} {enc : TypeId × Value → H} {W : World} {r : Reach} {b0 : Nat} {v : Value} {d : DataW H} {ps : List MemPlace} {sp : Nat → Bool} {held : Bool}
theorem c_string : Tryz.prog.cellsOf 9 = 1 := by kernel_rfl
theorem c_int : Tryz.prog.cellsOf 3 = 1 := by kernel_rfl
theorem c_u8 : Tryz.prog.cellsOf 5 = 1 := by kernel_rfl
theorem c_call : Tryz.prog.cellsOf 42 = 5 := by kernel_rfl
set_option maxRecDepth 100000 in
theorem openText (hval : Value.okWide Tryz.prog W r b0 9 v) (hd : DataW.Trod enc Tryz.prog W 0 (fun _ => true) true 9 v d ps) : ∃ s : Byts, v = .string (bs s) := by
  obtain ⟨s, rfl, _⟩ := ChangeMaps.open_string Tryz.underlying9 hval hd
  exact ⟨s.data.toList, by rw [bs_of]⟩
def fCl (c : Cal) : List Value := [.int .u8 c.1, .string (bs c.2.1), .int .i64 c.2.2.1, .int .i64 c.2.2.2.1, .int .u8 c.2.2.2.2]
set_option maxRecDepth 100000 in
theorem tr_call {fuel : Nat} {cs : List Value} {y : DataW H × List MemPlace} (h : DataW.trod enc Tryz.prog W 0 sp held fuel 42 cs = some y) : ∃ c : Cal, cs = fCl c := by
  obtain ⟨hl, n, ⟨y0, k0⟩, ⟨y1, k1⟩, ⟨y2, k2⟩, ⟨y3, k3⟩, ⟨y4, k4⟩⟩ := trod_fld5 Tryz.underlying42 h
  dsimp only at k0 k1 k2 k3 k4
  rw [c_call] at hl
  obtain ⟨p, q, s, u, z, rfl⟩ := len5 hl
  rw [c_string] at k1
  rw [c_int] at k2 k3
  rw [c_u8] at k0 k4
  obtain ⟨kd, e0, _, w0⟩ := DataW.trod_int Tryz.underlying5 k0
  obtain ⟨tx, e1, _⟩ := DataW.trod_string Tryz.underlying9 k1
  obtain ⟨lo, e2, _⟩ := DataW.trod_int Tryz.underlying3 k2
  obtain ⟨hi, e3, _⟩ := DataW.trod_int Tryz.underlying3 k3
  obtain ⟨er, e4, _, w4⟩ := DataW.trod_int Tryz.underlying5 k4
  simp at e0 e1 e2 e3 e4
  have b0 := oct_bounds w0
  have b4 := oct_bounds w4
  obtain ⟨kn, rfl⟩ := Int.eq_ofNat_of_zero_le b0.1
  obtain ⟨en, rfl⟩ := Int.eq_ofNat_of_zero_le b4.1
  exact ⟨(kn, tx.data.toList, lo, hi, en), by rw [e0, e1, e2, e3, e4]; unfold fCl; rw [bs_of]⟩
set_option maxRecDepth 100000 in
theorem openCall (hval : Value.okWide Tryz.prog W r b0 42 v) (hd : DataW.Trod enc Tryz.prog W 0 (fun _ => true) true 42 v d ps) : ∃ c : Cal, v = calV c := by
  obtain ⟨xs, rfl, _⟩ := okWide_struct Tryz.underlying42 hval
  obtain ⟨fuel, hf⟩ := hd
  obtain ⟨c, hc⟩ := tr_call hf
  refine ⟨c, ?_⟩
  obtain ⟨l⟩ := xs
  simp only [Value.cells] at hc
  have hc : l = fCl c := hc
  rw [hc]; rfl
end
end Go.Proofs.YtoholjdojdmbkaaGreatDoor
