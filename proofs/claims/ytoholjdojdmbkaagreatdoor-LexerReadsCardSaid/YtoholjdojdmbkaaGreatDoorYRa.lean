/- Reading a list of calls among a law's arguments. No condition of its own. -/
import Derived.Test.YtoholjdojdmbkaaGreatDoorYR9
namespace Go.Proofs.YtoholjdojdmbkaaGreatDoor
open Go Go.RowKit Go.Dw Go.ChangeShapes Go.WideShapes Go.ChangeAt
section
variable {H : Type} {enc : TypeId × Value → H} {W : World} {r : Reach} {b0 : Nat} {v : Value} {d : DataW H} {ps : List MemPlace}
set_option maxRecDepth 100000 in
theorem openCalls (hval : Value.okWide Tryz.prog W r b0 36 v) (hd : DataW.Trod enc Tryz.prog W 0 (fun _ => true) true 36 v d ps) : ∃ a n c L, v = .slice a n c ∧ Sl (encF fCl) 5 (Hp.whole W) a n c L := by
  obtain ⟨a, n, c, rfl⟩ := Dw.okWide_slice Tryz.underlying36 hval
  obtain ⟨fuel, hf⟩ := hd
  obtain ⟨a', n', c', L, e, hs⟩ := open_sliceR (α := Cal) (R := encF fCl) Tryz.underlying36 c_call (by decide) (fun _ _ _ h => tr_call h) hf
  simp [Value.cells] at e
  obtain ⟨rfl, rfl, rfl⟩ := e
  exact ⟨_, _, _, L, rfl, hs⟩
end
end Go.Proofs.YtoholjdojdmbkaaGreatDoor
