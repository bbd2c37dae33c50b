/- What the row of DocumentReturns tells of the program, cell by cell (one theorem a cell, else the kernel runs out of memory). No condition. -/
import Derived.Test.YtpjhmeicbjkcdaaGreatDoorCards
import Derived.JoinedOf
import Derived.KernelRfl
namespace Go.Proofs.YtpjhmeicbjkcdaaGreatDoor
open Go
theorem documentReturns_goes : Rows.documentReturnsRow.goesBy Tryz.prog = false := by kernel_rfl
theorem documentReturns_band {a b : Bool} (ha : a = true) (hb : b = true) : (a && b) = true := by rw [ha, hb]; rfl
theorem documentReturns_y1 : (Rows.documentReturnsRow.wf (OpenSpec.ofChange Rows.documentReturnsSpec)) = true := by kernel_rfl
theorem documentReturns_y2 : (laidOutB Tryz.prog) = true := by kernel_rfl
theorem documentReturns_y3 : (mapsRowed Tryz.prog) = true := by kernel_rfl
theorem documentReturns_y10 : (Rows.documentReturnsRow.inPlace == Tryz.prog.inPlace 8) = true := by kernel_rfl
theorem documentReturns_y11 : (Rows.documentReturnsRow.unfollowed == Tryz.prog.unfollowed 8) = true := by kernel_rfl
theorem documentReturns_y12 : (Rows.documentReturnsRow.recurses == Tryz.prog.recurses 8) = true := by kernel_rfl
theorem documentReturns_y13 : (Rows.documentReturnsRow.named == Tryz.prog.varsNamed 8) = true := by kernel_rfl
theorem documentReturns_y23 : (Rows.documentReturnsRow.plainKeys == Tryz.prog.plainKeys) = true := by kernel_rfl
theorem documentReturns_y25 : (Tryz.prog.stopsHeard) = true := by kernel_rfl
theorem documentReturns_y26 : (Tryz.prog.mayEnter) = true := by kernel_rfl
theorem documentReturns_y27 : (Rows.documentReturnsRow.lifted == Tryz.prog.liftsFinal) = true := by kernel_rfl
theorem documentReturns_facts : joinedFacts Tryz.prog 8 Tryz.f8 Rows.documentReturnsSpec Rows.documentReturnsRow = true := by
  delta joinedFacts
  exact (documentReturns_band (documentReturns_band (documentReturns_band (documentReturns_band (documentReturns_band (documentReturns_band (documentReturns_band (documentReturns_band (documentReturns_band (documentReturns_band (documentReturns_band (documentReturns_band (documentReturns_band (documentReturns_band (documentReturns_band (documentReturns_band (documentReturns_band (documentReturns_band (documentReturns_band (documentReturns_band (documentReturns_band (documentReturns_band (documentReturns_band (documentReturns_band (documentReturns_band (documentReturns_band (documentReturns_band (documentReturns_band (documentReturns_band (documentReturns_band (documentReturns_band documentReturns_y1 documentReturns_y2) documentReturns_y3) (by kernel_rfl)) (by kernel_rfl)) (by kernel_rfl)) (by kernel_rfl)) (by kernel_rfl)) (by kernel_rfl)) documentReturns_y10) documentReturns_y11) documentReturns_y12) documentReturns_y13) (by kernel_rfl)) (by kernel_rfl)) (by kernel_rfl)) (by kernel_rfl)) (by kernel_rfl)) (by kernel_rfl)) (by kernel_rfl)) (by kernel_rfl)) (by kernel_rfl)) documentReturns_y23) (by kernel_rfl)) documentReturns_y25) documentReturns_y26) documentReturns_y27) (by kernel_rfl)) (by kernel_rfl)) (by kernel_rfl)) (by kernel_rfl)) (by kernel_rfl))
end Go.Proofs.YtpjhmeicbjkcdaaGreatDoor
