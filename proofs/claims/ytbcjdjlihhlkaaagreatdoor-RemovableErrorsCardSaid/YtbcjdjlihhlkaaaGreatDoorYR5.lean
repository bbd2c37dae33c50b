/- Reading a pair of ints, or of bytes, among a law's arguments. No condition. -/
import Derived.Test.YtbcjdjlihhlkaaaGreatDoorYR4
namespace Go.Proofs.YtbcjdjlihhlkaaaGreatDoor
open Go Go.RowKit Go.Dw Go.ChangeShapes Go.WideShapes Go.ChangeAt
section
variable {H : Type} {enc : TypeId × Value → H} {P : Program} {W : World} {r : Reach} {b0 : Nat} {v : Value} {d : DataW H} {ps : List MemPlace} {t e : TypeId}
theorem open_pairK {k : IntKind} (ht : P.underlying t = some (.array 2 e)) (he : P.underlying e = some (.int k)) (hc : P.cellsOf t = 2) (hce : P.cellsOf e = 1) (hval : Value.okWide P W r b0 t v) (hd : DataW.Trod enc P W 0 (fun _ => true) true t v d ps) :
    ∃ x y, v = .agg #[.int k x, .int k y] ∧ (Lit.int k x).wf = true ∧ (Lit.int k y).wf = true := by
  obtain ⟨xs, rfl⟩ : ∃ xs, v = .agg xs := by
    simp only [Value.okWide, ht] at hval
    obtain ⟨cs, h1, _⟩ := hval
    exact ⟨cs, h1⟩
  obtain ⟨fuel, hf⟩ := hd
  obtain ⟨ys, m, _, _, hl, hn, hel⟩ := DataW.trod_array ht hf
  have h0 := hel 0 (by decide)
  have h1 := hel 1 (by decide)
  rw [hce] at h0 h1
  rw [hc] at hl
  simp only [Value.cells] at hl h0 h1
  obtain ⟨l⟩ := xs
  match l, hl, ys, hn, h0, h1 with
  | [p, q], _, [y0, y1], _, h0, h1 =>
    obtain ⟨x, e1, _, w1⟩ := DataW.trod_int he (show DataW.trod enc P W 0 (fun _ => true) true m e _ = some y0 from h0)
    obtain ⟨y, e2, _, w2⟩ := DataW.trod_int he (show DataW.trod enc P W 0 (fun _ => true) true m e _ = some y1 from h1)
    simp at e1 e2
    exact ⟨x, y, by rw [e1, e2], w1, w2⟩
end
section
variable {H : Type} {enc : TypeId × Value → H} {W : World} {r : Reach} {b0 : Nat} {v : Value} {d : DataW H} {ps : List MemPlace}
set_option maxRecDepth 100000 in
theorem openPairI (hval : Value.okWide Tryz.prog W r b0 28 v) (hd : DataW.Trod enc Tryz.prog W 0 (fun _ => true) true 28 v d ps) : ∃ x y, v = .agg #[.int .i64 x, .int .i64 y] := by
  obtain ⟨x, y, h, _, _⟩ := open_pairK Tryz.underlying28 Tryz.underlying3 (by kernel_rfl) (by kernel_rfl) hval hd
  exact ⟨x, y, h⟩
set_option maxRecDepth 100000 in
theorem openPairY (hval : Value.okWide Tryz.prog W r b0 53 v) (hd : DataW.Trod enc Tryz.prog W 0 (fun _ => true) true 53 v d ps) : ∃ x y, v = .agg #[.int .u8 x, .int .u8 y] ∧ (0 ≤ x ∧ x ≤ 255) ∧ (0 ≤ y ∧ y ≤ 255) := by
  obtain ⟨x, y, h, w1, w2⟩ := open_pairK Tryz.underlying53 Tryz.underlying5 (by kernel_rfl) (by kernel_rfl) hval hd
  exact ⟨x, y, h, byte_bounds w1, byte_bounds w2⟩
end
end Go.Proofs.YtbcjdjlihhlkaaaGreatDoor
