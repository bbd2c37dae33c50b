/- The example of layer 50, evaluated. No condition. -/
import Derived.Test.YtnlkffccobdbjaaGreatYXi
namespace Go.Proofs.YtnlkffccobdbjaaGreat
open Go Go.RowKit Go.Dw
def exT : List Tk := [⟨⟨#[97]⟩, 3, ⟨#[]⟩, []⟩, ⟨⟨#[98]⟩, 2, ⟨#[]⟩, []⟩, ⟨⟨#[99]⟩, 4, ⟨#[]⟩, [0]⟩]
def exS : List Sn := [⟨⟨#[120]⟩, []⟩, ⟨⟨#[121]⟩, []⟩]
theorem ex_shop : shopE exT exS = 0 := by decide +kernel
theorem ex_list : lisR exT exS [0, 1, 2] = [(0, 0, 0), (1, 1, 0), (2, 0, 3)] := by decide +kernel
theorem ex_lisE : lisE exT exS [0, 1, 2] = 0 := by decide +kernel
theorem ex_blen : (bstR exT exS).length = 3 := by decide +kernel
theorem ex_bstE : bstE exT exS = 0 := by decide +kernel
theorem ex_bjob : ∀ i, i < (bstR exT exS).length → (jbA (bstR exT exS) i).1 = i ∧ 0 ≤ stA (bstR exT exS) i ∧ stA (bstR exT exS) i ≤ 1000000000000 := by decide +kernel
theorem ex_low : (lowR exT exS).1 = 7 := by decide +kernel
theorem ex_vf : vfE exT exS 7 (lowR exT exS).2.1 (lowR exT exS).2.2.1 (lowR exT exS).2.2.2 = 0 := by decide +kernel
theorem ex_best : mspF exT (bstR exT exS) = 7 := by decide +kernel
end Go.Proofs.YtnlkffccobdbjaaGreat
