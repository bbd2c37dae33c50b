/- What the row of DocumentEquals tells of the program, cell by cell (one theorem a cell, else the kernel runs out of memory). No condition. -/
import Derived.Test.YtpjhmeicbjkcdaaGreatDoorCards
import Derived.JoinedOf
import Derived.KernelRfl
namespace Go.Proofs.YtpjhmeicbjkcdaaGreatDoor
open Go
theorem documentEquals_goes : Rows.documentEqualsRow.goesBy Tryz.prog = false := by kernel_rfl
theorem documentEquals_band {a b : Bool} (ha : a = true) (hb : b = true) : (a && b) = true := by rw [ha, hb]; rfl
theorem documentEquals_y1 : (Rows.documentEqualsRow.wf (OpenSpec.ofChange Rows.documentEqualsSpec)) = true := by kernel_rfl
theorem documentEquals_y2 : (laidOutB Tryz.prog) = true := by kernel_rfl
theorem documentEquals_y3 : (mapsRowed Tryz.prog) = true := by kernel_rfl
theorem documentEquals_y10 : (Rows.documentEqualsRow.inPlace == Tryz.prog.inPlace 7) = true := by kernel_rfl
theorem documentEquals_y11 : (Rows.documentEqualsRow.unfollowed == Tryz.prog.unfollowed 7) = true := by kernel_rfl
theorem documentEquals_y12 : (Rows.documentEqualsRow.recurses == Tryz.prog.recurses 7) = true := by kernel_rfl
theorem documentEquals_y13 : (Rows.documentEqualsRow.named == Tryz.prog.varsNamed 7) = true := by kernel_rfl
theorem documentEquals_y23 : (Rows.documentEqualsRow.plainKeys == Tryz.prog.plainKeys) = true := by kernel_rfl
theorem documentEquals_y25 : (Tryz.prog.stopsHeard) = true := by kernel_rfl
theorem documentEquals_y26 : (Tryz.prog.mayEnter) = true := by kernel_rfl
theorem documentEquals_y27 : (Rows.documentEqualsRow.lifted == Tryz.prog.liftsFinal) = true := by kernel_rfl
theorem documentEquals_facts : joinedFacts Tryz.prog 7 Tryz.f7 Rows.documentEqualsSpec Rows.documentEqualsRow = true := by
  delta joinedFacts
  exact (documentEquals_band (documentEquals_band (documentEquals_band (documentEquals_band (documentEquals_band (documentEquals_band (documentEquals_band (documentEquals_band (documentEquals_band (documentEquals_band (documentEquals_band (documentEquals_band (documentEquals_band (documentEquals_band (documentEquals_band (documentEquals_band (documentEquals_band (documentEquals_band (documentEquals_band (documentEquals_band (documentEquals_band (documentEquals_band (documentEquals_band (documentEquals_band (documentEquals_band (documentEquals_band (documentEquals_band (documentEquals_band (documentEquals_band (documentEquals_band (documentEquals_band documentEquals_y1 documentEquals_y2) documentEquals_y3) (by kernel_rfl)) (by kernel_rfl)) (by kernel_rfl)) (by kernel_rfl)) (by kernel_rfl)) (by kernel_rfl)) documentEquals_y10) documentEquals_y11) documentEquals_y12) documentEquals_y13) (by kernel_rfl)) (by kernel_rfl)) (by kernel_rfl)) (by kernel_rfl)) (by kernel_rfl)) (by kernel_rfl)) (by kernel_rfl)) (by kernel_rfl)) (by kernel_rfl)) documentEquals_y23) (by kernel_rfl)) documentEquals_y25) documentEquals_y26) documentEquals_y27) (by kernel_rfl)) (by kernel_rfl)) (by kernel_rfl)) (by kernel_rfl)) (by kernel_rfl))
end Go.Proofs.YtpjhmeicbjkcdaaGreatDoor
