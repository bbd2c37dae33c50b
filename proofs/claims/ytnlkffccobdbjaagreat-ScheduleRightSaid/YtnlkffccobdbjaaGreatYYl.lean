/- The row of ScheduleRight: for every input the law returns true, and its arguments read as before. No condition. -/
import Derived.Test.YtnlkffccobdbjaaGreatYR6
import Derived.Test.YtnlkffccobdbjaaGreatYR8
import Derived.Test.YtnlkffccobdbjaaGreatYYf
namespace Go.Proofs.YtnlkffccobdbjaaGreat
open Go Go.RowKit Go.Dw Go.ChangeShapes Go.WideShapes Go.ChangeAt
set_option maxRecDepth 100000 in
theorem scheduleRight_lifted (os : Os) (started : os.Started) (H : Type) (enc : TypeId × Value → H) :
    ReturnsInHanded {} Tryz.checked os 12 .any (Rows.scheduleRightSpec.pre6 enc Tryz.prog Tryz.f12 Rows.scheduleRightRow.domain false) (Rows.scheduleRightSpec.post enc Tryz.prog Tryz.f12 false true false false) := by
  refine returnsInHanded_of_change (C := Tryz.checked) own started (by kernel_rfl) Tryz.func12
    (ChangeSpec.witness6 (enc := enc) (C := Tryz.checked) false ⟨#[], #[.agg #[.slice none 0 0, .slice none 0 0], .slice none 0 0, .int .u8 0], []⟩ 8 (by kernel_rfl) (by kernel_rfl) (by kernel_rfl) (by kernel_rfl)) ?_
  intro W base args ds gs before hval0 hW hcnd0 _
  clear hcnd0
  have hval : ∀ (j : Nat) t v, Tryz.f12.params[j]? = some t → args[j]? = some v → Value.okWide Tryz.prog W .any base t v := hval0
  have hW' := hW
  obtain ⟨p, q, hA0, hV, rfl, hfz, hnd⟩ := hW
  have hA : DataW.TrodAll enc Tryz.prog W 0 (fun _ => true) true Tryz.f12.params.toList args.toList ds p := hA0
  rw [Tryz.params12] at hA hval
  obtain ⟨v0, v1, v2, d0, d1, d2, p0, p1, p2, rfl, rfl, rfl, h0, h1, h2⟩ := trodAll_three hA
  obtain ⟨a0, n0, c0, b0, m0, e0, TT, SS, rfl, hT, hS⟩ := openShop (hval 0 _ v0 rfl rfl) h0
  obtain ⟨a1, n1, c1, E1, rfl, hE1, hB1⟩ := openOrder (hval 1 _ v1 rfl rfl) h1
  obtain ⟨u2, rfl, _, _, hw2⟩ := open_int Tryz.underlying5 (hval 2 _ v2 rfl rfl) h2
  exact fin_true rfl (by kernel_rfl) (by kernel_rfl) hW' rfl rfl rfl (right50_ok u2 _ hT hS hE1 hB1 (oct_bounds hw2))
theorem scheduleRight_holds : Rows.ScheduleRightSaid :=
  OpenClaim.holds_of_wide 12 Tryz.f12 rfl rfl rfl rfl rfl rfl rfl ⟨rfl, rfl, rfl, rfl, rfl⟩ rfl rfl rfl rfl rfl (by kernel_rfl) Tryz.func12 (by kernel_rfl)
    (of_decide_eq_true (by kernel_rfl)) (by unfold Func.isWrapper; first | (rw [if_pos (by decide +kernel)]; kernel_rfl) | (rw [if_neg (by decide +kernel)]; exact ⟨rfl, rfl⟩))
    (fun os started H enc _ => scheduleRight_lifted os started H enc)
end Go.Proofs.YtnlkffccobdbjaaGreat
