/- What the row of DocumentExprs tells of the program, cell by cell (one theorem a cell, else the kernel runs out of memory). No condition. -/
import Derived.Test.YtpjhmeicbjkcdaaGreatDoorCards
import Derived.JoinedOf
import Derived.KernelRfl
namespace Go.Proofs.YtpjhmeicbjkcdaaGreatDoor
open Go
theorem documentExprs_goes : Rows.documentExprsRow.goesBy Tryz.prog = false := by kernel_rfl
theorem documentExprs_band {a b : Bool} (ha : a = true) (hb : b = true) : (a && b) = true := by rw [ha, hb]; rfl
theorem documentExprs_y1 : (Rows.documentExprsRow.wf (OpenSpec.ofChange Rows.documentExprsSpec)) = true := by kernel_rfl
theorem documentExprs_y2 : (laidOutB Tryz.prog) = true := by kernel_rfl
theorem documentExprs_y3 : (mapsRowed Tryz.prog) = true := by kernel_rfl
theorem documentExprs_y10 : (Rows.documentExprsRow.inPlace == Tryz.prog.inPlace 4) = true := by kernel_rfl
theorem documentExprs_y11 : (Rows.documentExprsRow.unfollowed == Tryz.prog.unfollowed 4) = true := by kernel_rfl
theorem documentExprs_y12 : (Rows.documentExprsRow.recurses == Tryz.prog.recurses 4) = true := by kernel_rfl
theorem documentExprs_y13 : (Rows.documentExprsRow.named == Tryz.prog.varsNamed 4) = true := by kernel_rfl
theorem documentExprs_y23 : (Rows.documentExprsRow.plainKeys == Tryz.prog.plainKeys) = true := by kernel_rfl
theorem documentExprs_y25 : (Tryz.prog.stopsHeard) = true := by kernel_rfl
theorem documentExprs_y26 : (Tryz.prog.mayEnter) = true := by kernel_rfl
theorem documentExprs_y27 : (Rows.documentExprsRow.lifted == Tryz.prog.liftsFinal) = true := by kernel_rfl
theorem documentExprs_facts : joinedFacts Tryz.prog 4 Tryz.f4 Rows.documentExprsSpec Rows.documentExprsRow = true := by
  delta joinedFacts
  exact (documentExprs_band (documentExprs_band (documentExprs_band (documentExprs_band (documentExprs_band (documentExprs_band (documentExprs_band (documentExprs_band (documentExprs_band (documentExprs_band (documentExprs_band (documentExprs_band (documentExprs_band (documentExprs_band (documentExprs_band (documentExprs_band (documentExprs_band (documentExprs_band (documentExprs_band (documentExprs_band (documentExprs_band (documentExprs_band (documentExprs_band (documentExprs_band (documentExprs_band (documentExprs_band (documentExprs_band (documentExprs_band (documentExprs_band (documentExprs_band (documentExprs_band documentExprs_y1 documentExprs_y2) documentExprs_y3) (by kernel_rfl)) (by kernel_rfl)) (by kernel_rfl)) (by kernel_rfl)) (by kernel_rfl)) (by kernel_rfl)) documentExprs_y10) documentExprs_y11) documentExprs_y12) documentExprs_y13) (by kernel_rfl)) (by kernel_rfl)) (by kernel_rfl)) (by kernel_rfl)) (by kernel_rfl)) (by kernel_rfl)) (by kernel_rfl)) (by kernel_rfl)) (by kernel_rfl)) documentExprs_y23) (by kernel_rfl)) documentExprs_y25) documentExprs_y26) documentExprs_y27) (by kernel_rfl)) (by kernel_rfl)) (by kernel_rfl)) (by kernel_rfl)) (by kernel_rfl))
end Go.Proofs.YtpjhmeicbjkcdaaGreatDoor
