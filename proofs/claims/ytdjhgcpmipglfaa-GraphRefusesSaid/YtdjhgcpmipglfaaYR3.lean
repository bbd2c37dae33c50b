/- Reading a pair of ints among a law's arguments. No condition. -/
import Derived.Test.YtdjhgcpmipglfaaXF
import Derived.OpenShut
namespace Go.Proofs.Ytdjhgcpmipglfaa
open Go Go.RowKit Go.Dw Go.ChangeShapes Go.WideShapes Go.ChangeAt
section
variable {H : Type} {enc : TypeId × Value → H} {P : Program} {W : World} {r : Reach} {b0 : Nat} {v : Value} {d : DataW H} {ps : List MemPlace} {t e : TypeId}
theorem open_pairV (ht : P.underlying t = some (.array 2 e)) (he : P.underlying e = some (.int .i64)) (hc : P.cellsOf t = 2) (hce : P.cellsOf e = 1) (hval : Value.okWide P W r b0 t v) (hd : DataW.Trod enc P W 0 (fun _ => true) true t v d ps) :
    ∃ x y, v = .agg #[.int .i64 x, .int .i64 y] := by
  obtain ⟨xs, rfl⟩ : ∃ xs, v = .agg xs := by
    simp only [Value.okWide, ht] at hval
    obtain ⟨cs, h1, _⟩ := hval
    exact ⟨cs, h1⟩
  obtain ⟨fuel, hf⟩ := hd
  obtain ⟨ys, m, _, _, hl, hn, hel⟩ := DataW.trod_array ht hf
  have h0 := hel 0 (by decide)
  have h1 := hel 1 (by decide)
  rw [hce] at h0 h1
  rw [hc] at hl
  simp only [Value.cells] at hl h0 h1
  obtain ⟨l⟩ := xs
  match l, hl, ys, hn, h0, h1 with
  | [p, q], _, [y0, y1], _, h0, h1 =>
    obtain ⟨x, e1, _⟩ := DataW.trod_int he (show DataW.trod enc P W 0 (fun _ => true) true m e _ = some y0 from h0)
    obtain ⟨y, e2, _⟩ := DataW.trod_int he (show DataW.trod enc P W 0 (fun _ => true) true m e _ = some y1 from h1)
    simp at e1 e2
    exact ⟨x, y, by rw [e1, e2]⟩
end
section
variable {H : Type} {enc : TypeId × Value → H} {W : World} {r : Reach} {b0 : Nat} {v : Value} {d : DataW H} {ps : List MemPlace}
set_option maxRecDepth 100000 in
theorem openPair (hval : Value.okWide Try.prog W r b0 85 v) (hd : DataW.Trod enc Try.prog W 0 (fun _ => true) true 85 v d ps) : ∃ x y, v = .agg #[.int .i64 x, .int .i64 y] :=
  open_pairV Try.underlying85 Try.underlying3 (by kernel_rfl) (by kernel_rfl) hval hd
end
end Go.Proofs.Ytdjhgcpmipglfaa
