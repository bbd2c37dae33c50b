/- What the row of DocumentChecks tells of the program, cell by cell (one theorem a cell, else the kernel runs out of memory). No condition. -/
import Derived.Test.YtpjhmeicbjkcdaaGreatDoorCards
import Derived.JoinedOf
import Derived.KernelRfl
namespace Go.Proofs.YtpjhmeicbjkcdaaGreatDoor
open Go
theorem documentChecks_goes : Rows.documentChecksRow.goesBy Tryz.prog = false := by kernel_rfl
theorem documentChecks_band {a b : Bool} (ha : a = true) (hb : b = true) : (a && b) = true := by rw [ha, hb]; rfl
theorem documentChecks_y1 : (Rows.documentChecksRow.wf (OpenSpec.ofChange Rows.documentChecksSpec)) = true := by kernel_rfl
theorem documentChecks_y2 : (laidOutB Tryz.prog) = true := by kernel_rfl
theorem documentChecks_y3 : (mapsRowed Tryz.prog) = true := by kernel_rfl
theorem documentChecks_y10 : (Rows.documentChecksRow.inPlace == Tryz.prog.inPlace 3) = true := by kernel_rfl
theorem documentChecks_y11 : (Rows.documentChecksRow.unfollowed == Tryz.prog.unfollowed 3) = true := by kernel_rfl
theorem documentChecks_y12 : (Rows.documentChecksRow.recurses == Tryz.prog.recurses 3) = true := by kernel_rfl
theorem documentChecks_y13 : (Rows.documentChecksRow.named == Tryz.prog.varsNamed 3) = true := by kernel_rfl
theorem documentChecks_y23 : (Rows.documentChecksRow.plainKeys == Tryz.prog.plainKeys) = true := by kernel_rfl
theorem documentChecks_y25 : (Tryz.prog.stopsHeard) = true := by kernel_rfl
theorem documentChecks_y26 : (Tryz.prog.mayEnter) = true := by kernel_rfl
theorem documentChecks_y27 : (Rows.documentChecksRow.lifted == Tryz.prog.liftsFinal) = true := by kernel_rfl
theorem documentChecks_facts : joinedFacts Tryz.prog 3 Tryz.f3 Rows.documentChecksSpec Rows.documentChecksRow = true := by
  delta joinedFacts
  exact (documentChecks_band (documentChecks_band (documentChecks_band (documentChecks_band (documentChecks_band (documentChecks_band (documentChecks_band (documentChecks_band (documentChecks_band (documentChecks_band (documentChecks_band (documentChecks_band (documentChecks_band (documentChecks_band (documentChecks_band (documentChecks_band (documentChecks_band (documentChecks_band (documentChecks_band (documentChecks_band (documentChecks_band (documentChecks_band (documentChecks_band (documentChecks_band (documentChecks_band (documentChecks_band (documentChecks_band (documentChecks_band (documentChecks_band (documentChecks_band (documentChecks_band documentChecks_y1 documentChecks_y2) documentChecks_y3) (by kernel_rfl)) (by kernel_rfl)) (by kernel_rfl)) (by kernel_rfl)) (by kernel_rfl)) (by kernel_rfl)) documentChecks_y10) documentChecks_y11) documentChecks_y12) documentChecks_y13) (by kernel_rfl)) (by kernel_rfl)) (by kernel_rfl)) (by kernel_rfl)) (by kernel_rfl)) (by kernel_rfl)) (by kernel_rfl)) (by kernel_rfl)) (by kernel_rfl)) documentChecks_y23) (by kernel_rfl)) documentChecks_y25) documentChecks_y26) documentChecks_y27) (by kernel_rfl)) (by kernel_rfl)) (by kernel_rfl)) (by kernel_rfl)) (by kernel_rfl))
end Go.Proofs.YtpjhmeicbjkcdaaGreatDoor
