/- The row of GraphRefuses: for every input the law returns true, and its arguments read as before. No condition. -/
import Derived.Test.YtdjhgcpmipglfaaYR3
import Derived.Test.YtdjhgcpmipglfaaYM7
namespace Go.Proofs.Ytdjhgcpmipglfaa
open Go Go.RowKit Go.Dw Go.ChangeShapes Go.WideShapes Go.ChangeAt
set_option maxRecDepth 100000 in
theorem refuses_lifted (os : Os) (started : os.Started) (H : Type) (enc : TypeId × Value → H) :
    ReturnsInHanded {} Try.checked os 12 .any (Rows.graphRefusesSpec.pre6 enc Try.prog Try.f12 Rows.graphRefusesRow.domain false) (Rows.graphRefusesSpec.post enc Try.prog Try.f12 false true false false) := by
  refine returnsInHanded_of_change (C := Try.checked) own started (by kernel_rfl) Try.func12
    (ChangeSpec.witness6 (enc := enc) (C := Try.checked) false ⟨#[], #[.agg #[.int .i64 0, .slice none 0 0], .slice none 0 0, .agg #[.int .i64 0, .int .i64 0]], []⟩ 8 (by kernel_rfl) (by kernel_rfl) (by kernel_rfl) (by kernel_rfl)) ?_
  intro W base args ds gs before hval0 hW hcnd0 _
  clear hcnd0
  have hval : ∀ (j : Nat) t v, Try.f12.params[j]? = some t → args[j]? = some v → Value.okWide Try.prog W .any base t v := hval0
  have hW' := hW
  obtain ⟨p, q, hA0, hV, rfl, hfz, hnd⟩ := hW
  have hA : DataW.TrodAll enc Try.prog W 0 (fun _ => true) true Try.f12.params.toList args.toList ds p := hA0
  rw [Try.params12] at hA hval
  obtain ⟨v0, v1, v2, d0, d1, d2, p0, p1, p2, rfl, rfl, rfl, h0, h1, h2⟩ := trodAll_three hA
  obtain ⟨N0, a0, n0, c0, E0, rfl, hE0⟩ := openGraph (hval 0 _ v0 rfl rfl) h0
  obtain ⟨a1, n1, c1, E1, rfl, hE1⟩ := openInts (hval 1 _ v1 rfl rfl) h1
  obtain ⟨x2, y2, rfl⟩ := openPair (hval 2 _ v2 rfl rfl) h2
  exact fin_true rfl (by kernel_rfl) (by kernel_rfl) hW' rfl rfl rfl (refuses_ok N0 W hE0 hE1 x2 y2)
theorem refuses_holds : Rows.GraphRefusesSaid :=
  OpenClaim.holds_of_wide 12 Try.f12 rfl rfl rfl rfl rfl rfl rfl ⟨rfl, rfl, rfl, rfl, rfl⟩ rfl rfl rfl rfl rfl (by kernel_rfl) Try.func12 (by kernel_rfl)
    (of_decide_eq_true (by kernel_rfl)) (by unfold Func.isWrapper; first | (rw [if_pos (by decide +kernel)]; kernel_rfl) | (rw [if_neg (by decide +kernel)]; exact ⟨rfl, rfl⟩))
    (fun os started H enc _ => refuses_lifted os started H enc)
end Go.Proofs.Ytdjhgcpmipglfaa
