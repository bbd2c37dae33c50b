/- The tied card of LexerLengths: for every input the law returns true, and its arguments read as before; the listed variables as the program's text lays them. No condition. -/
import Derived.Test.YtoholjdojdmbkaaGreatDoorYR9
import Derived.Test.YtoholjdojdmbkaaGreatDoorYKn
import Derived.Test.YtoholjdojdmbkaaGreatDoorTie
import Derived.Test.YtoholjdojdmbkaaGreatDoorCards
namespace Go.Proofs.YtoholjdojdmbkaaGreatDoor
open Go Go.RowKit Go.Dw Go.ChangeShapes Go.WideShapes Go.ChangeAt
set_option maxRecDepth 100000 in
theorem lexerLengths_lifted (os : Os) (started : os.Started) (H : Type) (enc : TypeId × Value → H) :
    ReturnsInHanded {} Tryz.checked os 3 .any (fun w args => (Rows.lexerLengthsSpec.pre enc Tryz.prog Tryz.f3 [] false w args ∧ laidMetH Tryz.prog lxLaid w) ∧ sizedMet enc Tryz.prog Tryz.f3 (OpenSpec.ofChange Rows.lexerLengthsSpec) false w args)
      (Rows.lexerLengthsSpec.post enc Tryz.prog Tryz.f3 false true false false) := by
  refine returnsInHanded_of_change_and (C := Tryz.checked) (X := fun w _ => laidMetH Tryz.prog lxLaid w) (fun _ _ _ hh h => h.of_heap hh) own started (by kernel_rfl) Tryz.func3
    (ChangeSpec.witness_shaped (enc := enc) (C := Tryz.checked) (os := os) (X := fun w _ => laidMetH Tryz.prog lxLaid w) false (World.laidAll Tryz.prog os lxLaid) #[.int .u8 0] 8 (World.laidAll_os _ _ _)
      (lx_shaped os _) (by kernel_rfl) (by kernel_rfl) (by kernel_rfl) (lx_met os _)) ?_
  intro W base args ds gs before hval0 hW _ _ hL _
  have hval : ∀ (j : Nat) t v, Tryz.f3.params[j]? = some t → args[j]? = some v → Value.okWide Tryz.prog W .any base t v := hval0
  have hW' := hW
  obtain ⟨p, q, hA0, hV, rfl, hfz, hnd⟩ := hW
  have hA : DataW.TrodAll enc Tryz.prog W 0 (fun _ => true) true Tryz.f3.params.toList args.toList ds p := hA0
  rw [Tryz.params3] at hA hval
  obtain ⟨v0, d0, rfl, rfl, h0⟩ := trodAll_one hA
  obtain ⟨u0, rfl, _, _, hw0⟩ := open_int Tryz.underlying5 (hval 0 _ v0 rfl rfl) h0
  exact fin_true rfl (by kernel_rfl) (by kernel_rfl) hW' rfl rfl rfl (lengths_ok u0 (oct_bounds hw0) W (tabS_of_laid hL))
theorem lexerLengths_row : Rows.LexerLengthsSaid :=
  OpenClaim.holds_of_wide 3 Tryz.f3 rfl rfl rfl rfl rfl rfl rfl ⟨rfl, rfl, rfl, rfl, rfl⟩ rfl rfl rfl rfl rfl (by kernel_rfl) Tryz.func3 (by kernel_rfl)
    (of_decide_eq_true (by kernel_rfl)) (by unfold Func.isWrapper; first | (rw [if_pos (by decide +kernel)]; kernel_rfl) | (rw [if_neg (by decide +kernel)]; exact ⟨rfl, rfl⟩))
    (fun os started H enc _ => lexerLengths_lifted os started H enc)
theorem lexerLengths_holds : Rows.LexerLengthsCardSaid :=
  Claim7.holds_tied_plain_at .later [] [.data, .data, .data, .data, .sentinel, .sentinel, .listed, .data, .pinned] true (true, "61d5449f289b5a2e451e918eae790f02ed5e9ba3fbebab91adf65fecef4ed2ae") true
    lexerLengths_row (fun _ h => by cases h) (by kernel_rfl) (fun _ h => by cases h) lexerLengths_row_tie rfl ⟨rfl, rfl⟩ (by kernel_rfl) rfl
    (fun f fn hf hfn => by
      obtain rfl : f = 3 := Option.some.inj ((show Tryz.prog.funcNamed "dowel/dowellaw35.LexerLengths" = some 3 by kernel_rfl).symm.trans hf) |>.symm
      obtain rfl : fn = Tryz.f3 := (Option.some.inj (Tryz.func3.symm.trans hfn)).symm
      exact ⟨by kernel_rfl, fun j t ht => by
        rw [Tryz.params3] at ht
        have hm : t ∈ [5] := by simpa using Array.mem_of_getElem? ht
        have hall : ([5].all fun u => !Tryz.prog.wantsStandIn u) = true := by kernel_rfl
        exact (show Tryz.prog.wantsStandIn t = false by simpa using List.all_eq_true.1 hall t hm)⟩)
    (by kernel_rfl)
end Go.Proofs.YtoholjdojdmbkaaGreatDoor
