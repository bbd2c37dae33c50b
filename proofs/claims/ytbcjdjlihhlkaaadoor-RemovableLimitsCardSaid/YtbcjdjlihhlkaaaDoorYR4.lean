/- Reading a net among a law's arguments; the table of math/bits off the row's listed variable; the witness. No condition. -/
import Derived.Test.YtbcjdjlihhlkaaaDoorXF
import Derived.Test.YtbcjdjlihhlkaaaDoorXM
import Derived.LaidMore
import Derived.OpenShut
import Derived.Stop.Joined
import Derived.MakeChecks
namespace Go.Dw
open Go Go.RowKit Go.ChangeShapes Go.WideShapes Go.ChangeAt
section
variable {H : Type} {enc : TypeId × Value → H} {P : Program} {W : World} {sp : Nat → Bool} {held : Bool}
abbrev Byte := { x : Int // 0 ≤ x ∧ x ≤ 255 }
theorem byte_bounds {n : Int} (h : (Lit.int .u8 n).wf = true) : 0 ≤ n ∧ n ≤ 255 := by
  simp only [Lit.wf, Bool.and_eq_true, decide_eq_true_eq] at h
  have h1 : IntKind.u8.min = 0 := rfl
  have h2 : IntKind.u8.max = 255 := rfl
  omega
theorem Sl.map {α β : Type} {f : α → List Value} {g : β → List Value} {u : α → β} (e : ∀ x, f x = g (u x)) {n : Nat} {h : Hp} {a : Option Addr} {m c : Nat} {L : List α} (hs : Sl (encF f) n h a m c L) : Sl (encF g) n h a m c (L.map u) := by
  refine ⟨by rw [List.length_map]; exact hs.len, hs.cap, fun i hi => ?_⟩
  rw [List.length_map] at hi
  obtain ⟨b, off, cs, h1, h2, h3, h4⟩ := hs.cells i hi
  refine ⟨b, off, cs, h1, h2, ?_, h4⟩
  rw [List.getElem_map]
  unfold encF at h3 ⊢
  rw [h3, e]
theorem open_bytesC {t e : TypeId} (he : P.underlying e = some (.int .u8)) (hc : P.cellsOf e = 1) (ht : P.underlying t = some (.slice e)) {fuel : Nat} {cs : List Value} {y : DataW H × List MemPlace} (h : DataW.trod enc P W 0 sp held fuel t cs = some y) :
    ∃ a m c L, cs = [.slice a m c] ∧ Sl (encF fun x : Int => [.int .u8 x]) 1 (Hp.whole W) a m c L ∧ ∀ u ∈ L, 0 ≤ u ∧ u ≤ 255 := by
  haveI : Inhabited Byte := ⟨⟨0, by decide⟩⟩
  obtain ⟨a, m, c, L, h1, h2⟩ := open_slice (α := Byte) (f := fun x => [.int .u8 x.1]) ht hc (by decide) (fun _ _ _ h => by
    obtain ⟨n, e1, _, hw⟩ := DataW.trod_int he h
    exact ⟨⟨n, byte_bounds hw⟩, e1⟩) (fun g x h => by
    obtain ⟨p, e, f0⟩ := range_mapM1 h
    rw [e]
    refine ⟨rfl, fun j v hj => ?_⟩
    match j, hj with
    | 0, hj => cases hj; exact f0) h
  refine ⟨a, m, c, L.map Subtype.val, h1, Sl.map (u := Subtype.val) (fun _ => rfl) h2, fun u hu => ?_⟩
  obtain ⟨x, _, rfl⟩ := List.mem_map.1 hu
  exact x.2
/-- a struct of a byte and a slice of bytes -/
theorem open_net {g t e : TypeId} {G0 G1 : Field} (he : P.underlying e = some (.int .u8)) (hc : P.cellsOf e = 1) (ht : P.underlying t = some (.slice e)) (hg : P.underlying g = some (.struct #[G0, G1])) (h0 : G0.offset = 0) (h1 : G1.offset = 1) (t0 : G0.type = e) (t1 : G1.type = t) (cg : P.cellsOf g = 2) (ct : P.cellsOf t = 1)
    {r : Reach} {b0 : Nat} {v : Value} {d : DataW H} {ps : List MemPlace} (hval : Value.okWide P W r b0 g v) (hd : DataW.Trod enc P W 0 sp held g v d ps) :
    ∃ N a n c U, v = .agg #[.int .u8 N, .slice a n c] ∧ (0 ≤ N ∧ N ≤ 255) ∧ Sl (encF fun x : Int => [.int .u8 x]) 1 (Hp.whole W) a n c U ∧ ∀ u ∈ U, 0 ≤ u ∧ u ≤ 255 := by
  obtain ⟨xs, rfl⟩ : ∃ xs, v = .agg xs := by
    simp only [Value.okWide, hg] at hval
    obtain ⟨cs, h1, _⟩ := hval
    exact ⟨cs, h1⟩
  obtain ⟨fuel, hf⟩ := hd
  obtain ⟨y0, y1, n, _, hl, k0, k1⟩ := trod_struct2 hg hf
  rw [t0, h0, hc] at k0
  rw [t1, h1, ct] at k1
  rw [cg] at hl
  obtain ⟨N, e0, _, hw⟩ := DataW.trod_int he k0
  obtain ⟨a', n', c', E, e1, hs⟩ := open_bytesC he hc ht k1
  simp only [Value.cells] at hl e0 e1
  refine ⟨N, a', n', c', E, ?_, byte_bounds hw, hs⟩
  obtain ⟨l⟩ := xs
  match l, hl with
  | [p, q], _ =>
    simp at e0 e1
    rw [e0, e1]
end
end Go.Dw
namespace Go.Proofs.YtbcjdjlihhlkaaaDoor
open Go Go.RowKit Go.Dw Go.ChangeShapes Go.WideShapes Go.ChangeAt
section
variable {H : Type} {enc : TypeId × Value → H} {W : World} {r : Reach} {b0 : Nat} {v : Value} {d : DataW H} {ps : List MemPlace}
set_option maxRecDepth 100000 in
theorem openNet (hval : Value.okWide Tryd.prog W r b0 24 v) (hd : DataW.Trod enc Tryd.prog W 0 (fun _ => true) true 24 v d ps) :
    ∃ N a n c U, v = .agg #[.int .u8 N, .slice a n c] ∧ (0 ≤ N ∧ N ≤ 255) ∧ Sl (encF fY) 1 (Hp.whole W) a n c U ∧ ∀ u ∈ U, 0 ≤ u ∧ u ≤ 255 :=
  open_net Tryd.underlying5 (by kernel_rfl) Tryd.underlying22 Tryd.underlying24 rfl rfl rfl rfl (by kernel_rfl) (by kernel_rfl) hval hd
end
theorem tabGlobal : Tryd.prog.globalNamed "math/bits.deBruijn64tab" = some 0 := by kernel_rfl
theorem tabType : (Tryd.prog.globals[0]?).map (·.type) = some 103 := by kernel_rfl
theorem tabDatum : (Rows.laid_math_bits_deBruijn64tab : DataW Unit) = .agg (Lib.deBruijn64tab.map fun n : Nat => .lit (.int .u8 n)) := by kernel_rfl
theorem tab_of_laid {W : World} (h : laidMetH Tryd.prog [("math/bits.deBruijn64tab", Rows.laid_math_bits_deBruijn64tab)] W) : Tab (Hp.whole W) := by
  rw [MakeChecks.laidMetH_plain _ _ _ (by kernel_rfl)] at h
  obtain ⟨ps, ⟨g0, t0, cs0, f0, p0, q0, hg0, ht0, hv0, hd0, _, _⟩, _, _⟩ := h
  obtain rfl := Option.some.inj (tabGlobal.symm.trans hg0)
  obtain rfl := Option.some.inj (tabType.symm.trans ht0)
  obtain ⟨xs, m1, rfl, hx1, hlen, hn, hel⟩ := DataW.trod_array Tryd.underlying103 hd0
  have ce : Tryd.prog.cellsOf 5 = 1 := by kernel_rfl
  simp only [Prod.mk.injEq] at hx1
  rw [tabDatum, DataW.agg.injEq] at hx1
  intro j hj
  have h0 := hel j hj
  rw [ce, Nat.mul_one] at h0
  have hjx : j < xs.length := by omega
  rw [List.getElem?_eq_getElem hjx] at h0
  obtain ⟨n, e1, e2, _⟩ := DataW.trod_int Tryd.underlying5 h0
  have hd : (xs.map (·.1))[j]? = some (.lit (.int .u8 n)) := by
    rw [List.getElem?_map, List.getElem?_eq_getElem hjx, e2]; rfl
  rw [← hx1.1, List.getElem?_map] at hd
  have hgd : Lib.deBruijn64tab.getD j 0 = n := by
    cases hq : Lib.deBruijn64tab[j]? with
    | none => rw [hq] at hd; cases hd
    | some z =>
      rw [hq] at hd
      simp only [Option.map_some, Option.some.injEq, DataW.lit.injEq, Lit.int.injEq, true_and] at hd
      rw [List.getD_eq_getElem?_getD, hq]
      exact hd
  have hc := World.var?_cell hg0 hv0 j
  have hcj : cs0[j]? = some (.int .u8 n) := by
    have := congrArg (·[0]?) e1
    simp only [List.getElem?_cons_zero, List.getElem?_take_of_lt (show 0 < 1 by decide), List.getElem?_drop, Nat.add_zero, Array.getElem?_toList] at this
    exact this
  rw [hcj] at hc
  rw [hgd]
  exact hc
end Go.Proofs.YtbcjdjlihhlkaaaDoor
