/- The row of ScheduleShorter: for every input the law returns true, and its arguments read as before. No condition. -/
import Derived.Test.YtnlkffccobdbjaaGreatXP
import Derived.Test.YtnlkffccobdbjaaGreatYYs
namespace Go.Proofs.YtnlkffccobdbjaaGreat
open Go Go.RowKit Go.Dw Go.ChangeShapes Go.WideShapes Go.ChangeAt
set_option maxRecDepth 100000 in
theorem scheduleShorter_lifted (os : Os) (started : os.Started) (H : Type) (enc : TypeId × Value → H) :
    ReturnsInHanded {} Tryz.checked os 7 .any (Rows.scheduleShorterSpec.pre6 enc Tryz.prog Tryz.f7 Rows.scheduleShorterRow.domain false) (Rows.scheduleShorterSpec.post enc Tryz.prog Tryz.f7 false true false false) := by
  refine returnsInHanded_of_change (C := Tryz.checked) own started (by kernel_rfl) Tryz.func7
    (ChangeSpec.witness6 (enc := enc) (C := Tryz.checked) false ⟨#[], #[.agg #[.slice none 0 0, .slice none 0 0], .slice none 0 0, .int .u8 0], []⟩ 8 (by kernel_rfl) (by kernel_rfl) (by kernel_rfl) (by kernel_rfl)) ?_
  intro W base args ds gs before hval0 hW hcnd0 _
  clear hcnd0
  have hval : ∀ (j : Nat) t v, Tryz.f7.params[j]? = some t → args[j]? = some v → Value.okWide Tryz.prog W .any base t v := hval0
  have hW' := hW
  obtain ⟨p, q, hA0, hV, rfl, hfz, hnd⟩ := hW
  have hA : DataW.TrodAll enc Tryz.prog W 0 (fun _ => true) true Tryz.f7.params.toList args.toList ds p := hA0
  rw [Tryz.params7] at hA hval
  obtain ⟨v0, v1, v2, d0, d1, d2, p0, p1, p2, rfl, rfl, rfl, h0, h1, h2⟩ := trodAll_three hA
  obtain ⟨a0, n0, c0, b0, m0, e0, TT, SS, rfl, hT, hS⟩ := openShop (hval 0 _ v0 rfl rfl) h0
  obtain ⟨a1, n1, c1, E1, rfl, hE1, hB1⟩ := openOrder (hval 1 _ v1 rfl rfl) h1
  obtain ⟨u2, rfl, _, _, hw2⟩ := open_int Tryz.underlying5 (hval 2 _ v2 rfl rfl) h2
  exact fin_true rfl (by kernel_rfl) (by kernel_rfl) hW' rfl rfl rfl (shorter50_ok u2 _ hT hS hE1 hB1 (oct_bounds hw2))
theorem scheduleShorter_holds : Rows.ScheduleShorterSaid :=
  OpenClaim.holds_of_wide 7 Tryz.f7 rfl rfl rfl rfl rfl rfl rfl ⟨rfl, rfl, rfl, rfl, rfl⟩ rfl rfl rfl rfl rfl (by kernel_rfl) Tryz.func7 (by kernel_rfl)
    (of_decide_eq_true (by kernel_rfl)) (by unfold Func.isWrapper; first | (rw [if_pos (by decide +kernel)]; kernel_rfl) | (rw [if_neg (by decide +kernel)]; exact ⟨rfl, rfl⟩))
    (fun os started H enc _ => scheduleShorter_lifted os started H enc)
end Go.Proofs.YtnlkffccobdbjaaGreat
