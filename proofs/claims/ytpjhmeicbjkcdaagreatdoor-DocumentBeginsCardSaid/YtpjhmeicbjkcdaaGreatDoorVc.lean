/- What the row of DocumentBegins tells of the program, cell by cell (one theorem a cell, else the kernel runs out of memory). No condition. -/
import Derived.Test.YtpjhmeicbjkcdaaGreatDoorCards
import Derived.JoinedOf
import Derived.KernelRfl
namespace Go.Proofs.YtpjhmeicbjkcdaaGreatDoor
open Go
theorem documentBegins_goes : Rows.documentBeginsRow.goesBy Tryz.prog = false := by kernel_rfl
theorem documentBegins_band {a b : Bool} (ha : a = true) (hb : b = true) : (a && b) = true := by rw [ha, hb]; rfl
theorem documentBegins_y1 : (Rows.documentBeginsRow.wf (OpenSpec.ofChange Rows.documentBeginsSpec)) = true := by kernel_rfl
theorem documentBegins_y2 : (laidOutB Tryz.prog) = true := by kernel_rfl
theorem documentBegins_y3 : (mapsRowed Tryz.prog) = true := by kernel_rfl
theorem documentBegins_y10 : (Rows.documentBeginsRow.inPlace == Tryz.prog.inPlace 5) = true := by kernel_rfl
theorem documentBegins_y11 : (Rows.documentBeginsRow.unfollowed == Tryz.prog.unfollowed 5) = true := by kernel_rfl
theorem documentBegins_y12 : (Rows.documentBeginsRow.recurses == Tryz.prog.recurses 5) = true := by kernel_rfl
theorem documentBegins_y13 : (Rows.documentBeginsRow.named == Tryz.prog.varsNamed 5) = true := by kernel_rfl
theorem documentBegins_y23 : (Rows.documentBeginsRow.plainKeys == Tryz.prog.plainKeys) = true := by kernel_rfl
theorem documentBegins_y25 : (Tryz.prog.stopsHeard) = true := by kernel_rfl
theorem documentBegins_y26 : (Tryz.prog.mayEnter) = true := by kernel_rfl
theorem documentBegins_y27 : (Rows.documentBeginsRow.lifted == Tryz.prog.liftsFinal) = true := by kernel_rfl
theorem documentBegins_facts : joinedFacts Tryz.prog 5 Tryz.f5 Rows.documentBeginsSpec Rows.documentBeginsRow = true := by
  delta joinedFacts
  exact (documentBegins_band (documentBegins_band (documentBegins_band (documentBegins_band (documentBegins_band (documentBegins_band (documentBegins_band (documentBegins_band (documentBegins_band (documentBegins_band (documentBegins_band (documentBegins_band (documentBegins_band (documentBegins_band (documentBegins_band (documentBegins_band (documentBegins_band (documentBegins_band (documentBegins_band (documentBegins_band (documentBegins_band (documentBegins_band (documentBegins_band (documentBegins_band (documentBegins_band (documentBegins_band (documentBegins_band (documentBegins_band (documentBegins_band (documentBegins_band (documentBegins_band documentBegins_y1 documentBegins_y2) documentBegins_y3) (by kernel_rfl)) (by kernel_rfl)) (by kernel_rfl)) (by kernel_rfl)) (by kernel_rfl)) (by kernel_rfl)) documentBegins_y10) documentBegins_y11) documentBegins_y12) documentBegins_y13) (by kernel_rfl)) (by kernel_rfl)) (by kernel_rfl)) (by kernel_rfl)) (by kernel_rfl)) (by kernel_rfl)) (by kernel_rfl)) (by kernel_rfl)) (by kernel_rfl)) documentBegins_y23) (by kernel_rfl)) documentBegins_y25) documentBegins_y26) documentBegins_y27) (by kernel_rfl)) (by kernel_rfl)) (by kernel_rfl)) (by kernel_rfl)) (by kernel_rfl))
end Go.Proofs.YtpjhmeicbjkcdaaGreatDoor
