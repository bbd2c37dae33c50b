/- Reading a list of tokens among a law's arguments. No condition of its own. -/
import Derived.Test.YtoholjdojdmbkaaGreatDoorYR9
import Derived.Test.YtoholjdojdmbkaaGreatDoorYN5
namespace Go.Proofs.YtoholjdojdmbkaaGreatDoor
open Go Go.RowKit Go.Dw Go.ChangeShapes Go.WideShapes Go.ChangeAt
section
variable {H : Type} {enc : TypeId × Value → H} {W : World} {r : Reach} {b0 : Nat} {v : Value} {d : DataW H} {ps : List MemPlace} {sp : Nat → Bool} {held : Bool}
theorem c_tok : Tryz.prog.cellsOf 32 = 4 := by kernel_rfl
set_option maxRecDepth 100000 in
theorem tr_tok {fuel : Nat} {cs : List Value} {y : DataW H × List MemPlace} (h : DataW.trod enc Tryz.prog W 0 sp held fuel 32 cs = some y) : ∃ t : TokZ, cs = fTz t := by
  obtain ⟨hl, n, ⟨y0, k0⟩, ⟨y1, k1⟩, ⟨y2, k2⟩, ⟨y3, k3⟩⟩ := trod_fld4 Tryz.underlying32 h
  dsimp only at k0 k1 k2 k3
  rw [c_tok] at hl
  obtain ⟨p, q, s, u, rfl⟩ := len4 hl
  rw [c_string] at k1
  rw [c_int] at k0 k2 k3
  obtain ⟨kd, e0, _⟩ := DataW.trod_int Tryz.underlying3 k0
  obtain ⟨tx, e1, _⟩ := DataW.trod_string Tryz.underlying9 k1
  obtain ⟨ln, e2, _⟩ := DataW.trod_int Tryz.underlying3 k2
  obtain ⟨co, e3, _⟩ := DataW.trod_int Tryz.underlying3 k3
  simp at e0 e1 e2 e3
  exact ⟨(kd, tx.data.toList, ln, co), by rw [e0, e1, e2, e3]; unfold fTz; rw [bs_of]⟩
set_option maxRecDepth 100000 in
theorem openToks (hval : Value.okWide Tryz.prog W r b0 26 v) (hd : DataW.Trod enc Tryz.prog W 0 (fun _ => true) true 26 v d ps) : ∃ a n c L, v = .slice a n c ∧ Sl (encF fTz) 4 (Hp.whole W) a n c L := by
  obtain ⟨a, n, c, rfl⟩ := Dw.okWide_slice Tryz.underlying26 hval
  obtain ⟨fuel, hf⟩ := hd
  obtain ⟨a', n', c', L, e, hs⟩ := open_sliceR (α := TokZ) (R := encF fTz) Tryz.underlying26 c_tok (by decide) (fun _ _ _ h => tr_tok h) hf
  simp [Value.cells] at e
  obtain ⟨rfl, rfl, rfl⟩ := e
  exact ⟨_, _, _, L, rfl, hs⟩
end
end Go.Proofs.YtoholjdojdmbkaaGreatDoor
