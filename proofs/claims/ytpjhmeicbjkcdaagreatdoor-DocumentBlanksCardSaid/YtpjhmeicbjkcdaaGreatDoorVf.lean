/- What the row of DocumentBlanks tells of the program, cell by cell (one theorem a cell, else the kernel runs out of memory). No condition. -/
import Derived.Test.YtpjhmeicbjkcdaaGreatDoorCards
import Derived.JoinedOf
import Derived.KernelRfl
namespace Go.Proofs.YtpjhmeicbjkcdaaGreatDoor
open Go
theorem documentBlanks_goes : Rows.documentBlanksRow.goesBy Tryz.prog = false := by kernel_rfl
theorem documentBlanks_band {a b : Bool} (ha : a = true) (hb : b = true) : (a && b) = true := by rw [ha, hb]; rfl
theorem documentBlanks_y1 : (Rows.documentBlanksRow.wf (OpenSpec.ofChange Rows.documentBlanksSpec)) = true := by kernel_rfl
theorem documentBlanks_y2 : (laidOutB Tryz.prog) = true := by kernel_rfl
theorem documentBlanks_y3 : (mapsRowed Tryz.prog) = true := by kernel_rfl
theorem documentBlanks_y10 : (Rows.documentBlanksRow.inPlace == Tryz.prog.inPlace 6) = true := by kernel_rfl
theorem documentBlanks_y11 : (Rows.documentBlanksRow.unfollowed == Tryz.prog.unfollowed 6) = true := by kernel_rfl
theorem documentBlanks_y12 : (Rows.documentBlanksRow.recurses == Tryz.prog.recurses 6) = true := by kernel_rfl
theorem documentBlanks_y13 : (Rows.documentBlanksRow.named == Tryz.prog.varsNamed 6) = true := by kernel_rfl
theorem documentBlanks_y23 : (Rows.documentBlanksRow.plainKeys == Tryz.prog.plainKeys) = true := by kernel_rfl
theorem documentBlanks_y25 : (Tryz.prog.stopsHeard) = true := by kernel_rfl
theorem documentBlanks_y26 : (Tryz.prog.mayEnter) = true := by kernel_rfl
theorem documentBlanks_y27 : (Rows.documentBlanksRow.lifted == Tryz.prog.liftsFinal) = true := by kernel_rfl
theorem documentBlanks_facts : joinedFacts Tryz.prog 6 Tryz.f6 Rows.documentBlanksSpec Rows.documentBlanksRow = true := by
  delta joinedFacts
  exact (documentBlanks_band (documentBlanks_band (documentBlanks_band (documentBlanks_band (documentBlanks_band (documentBlanks_band (documentBlanks_band (documentBlanks_band (documentBlanks_band (documentBlanks_band (documentBlanks_band (documentBlanks_band (documentBlanks_band (documentBlanks_band (documentBlanks_band (documentBlanks_band (documentBlanks_band (documentBlanks_band (documentBlanks_band (documentBlanks_band (documentBlanks_band (documentBlanks_band (documentBlanks_band (documentBlanks_band (documentBlanks_band (documentBlanks_band (documentBlanks_band (documentBlanks_band (documentBlanks_band (documentBlanks_band (documentBlanks_band documentBlanks_y1 documentBlanks_y2) documentBlanks_y3) (by kernel_rfl)) (by kernel_rfl)) (by kernel_rfl)) (by kernel_rfl)) (by kernel_rfl)) (by kernel_rfl)) documentBlanks_y10) documentBlanks_y11) documentBlanks_y12) documentBlanks_y13) (by kernel_rfl)) (by kernel_rfl)) (by kernel_rfl)) (by kernel_rfl)) (by kernel_rfl)) (by kernel_rfl)) (by kernel_rfl)) (by kernel_rfl)) (by kernel_rfl)) documentBlanks_y23) (by kernel_rfl)) documentBlanks_y25) documentBlanks_y26) documentBlanks_y27) (by kernel_rfl)) (by kernel_rfl)) (by kernel_rfl)) (by kernel_rfl)) (by kernel_rfl))
end Go.Proofs.YtpjhmeicbjkcdaaGreatDoor
