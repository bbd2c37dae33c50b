/- Reading jobs among a law's arguments. No condition of its own. -/
import Derived.Test.YtnlkffccobdbjaaGreatYR6
import Derived.Test.YtnlkffccobdbjaaGreatXM
namespace Go.Proofs.YtnlkffccobdbjaaGreat
open Go Go.RowKit Go.Dw Go.ChangeShapes Go.WideShapes Go.ChangeAt
section
variable {H : Type} {enc : TypeId × Value → H} {W : World} {r : Reach} {b0 : Nat} {v : Value} {d : DataW H} {ps : List MemPlace} {sp : Nat → Bool} {held : Bool}
theorem c_job : Tryz.prog.cellsOf 52 = 3 := by kernel_rfl
set_option maxRecDepth 100000 in
theorem tr_job {fuel : Nat} {cs : List Value} {y : DataW H × List MemPlace} (h : DataW.trod enc Tryz.prog W 0 sp held fuel 52 cs = some y) : ∃ j : Jb, (encF fJ) (Hp.whole W) j cs := by
  obtain ⟨hl, n, ⟨y0, k0⟩, ⟨y1, k1⟩, ⟨y2, k2⟩⟩ := trod_fld3 Tryz.underlying52 h
  dsimp only at k0 k1 k2
  rw [c_job] at hl
  obtain ⟨p, q, s, rfl⟩ := len3 hl
  rw [c_int] at k0 k1 k2
  obtain ⟨i0, e0, _⟩ := DataW.trod_int Tryz.underlying3 k0
  obtain ⟨i1, e1, _⟩ := DataW.trod_int Tryz.underlying3 k1
  obtain ⟨i2, e2, _⟩ := DataW.trod_int Tryz.underlying3 k2
  simp at e0 e1 e2
  exact ⟨(i0, i1, i2), by rw [e0, e1, e2]; rfl⟩
set_option maxRecDepth 100000 in
theorem openJobs (hval : Value.okWide Tryz.prog W r b0 38 v) (hd : DataW.Trod enc Tryz.prog W 0 (fun _ => true) true 38 v d ps) : ∃ a n c L, v = .slice a n c ∧ Sl (encF fJ) 3 (Hp.whole W) a n c L := by
  obtain ⟨a, n, c, rfl⟩ := Go.Dw.okWide_slice Tryz.underlying38 hval
  obtain ⟨fuel, hf⟩ := hd
  obtain ⟨a', n', c', L, e, hs⟩ := open_sliceR (α := Jb) (R := encF fJ) Tryz.underlying38 c_job (by decide) (fun _ _ _ h => tr_job h) hf
  simp [Value.cells] at e
  obtain ⟨rfl, rfl, rfl⟩ := e
  exact ⟨_, _, _, L, rfl, hs⟩
end
end Go.Proofs.YtnlkffccobdbjaaGreat
