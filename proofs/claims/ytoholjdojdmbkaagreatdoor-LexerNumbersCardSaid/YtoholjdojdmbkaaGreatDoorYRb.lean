/- The powers of ten, off the listed variables. Premises are the theorems' own. -/
import Derived.Test.YtoholjdojdmbkaaGreatDoorYR9
import Derived.Test.YtoholjdojdmbkaaGreatDoorXQ
namespace Go.Proofs.YtoholjdojdmbkaaGreatDoor
open Go Go.RowKit Go.Dw Go.ChangeShapes Go.WideShapes Go.ChangeAt
theorem pwGlobal : Tryz.prog.globalNamed "internal/strconv.uint64pow10" = some 4 := by kernel_rfl
theorem pwType : (Tryz.prog.globals[4]?).map (·.type) = some 226 := by kernel_rfl
theorem pwDatum : (Rows.laid_internal_strconv_uint64pow10 : DataW Unit) = Lib.tabData .u64 Lib.pow10Tab := by kernel_rfl
set_option maxRecDepth 100000 in
theorem tabP_of_laid {W : World} (hh : laidMetH Tryz.prog lxLaid W) : TabP (Hp.whole W) := by
  have h : laidMetH Tryz.prog [("internal/strconv.uint64pow10", Rows.laid_internal_strconv_uint64pow10)] W := hh.filter fun x => x.1 == "internal/strconv.uint64pow10"
  rw [MakeChecks.laidMetH_plain _ _ _ (by kernel_rfl), pwDatum] at h
  exact TabP.of (Lib.tabIs_of_head pwGlobal pwType Tryz.underlying226 Tryz.underlying86 (by kernel_rfl) (by kernel_rfl) h)
end Go.Proofs.YtoholjdojdmbkaaGreatDoor
