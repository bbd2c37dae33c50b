/- The tied card of LexerNumbers: for every input the law returns true, and its arguments read as before; the listed variables as the program's text lays them. No condition. -/
import Derived.Test.YtoholjdojdmbkaaGreatDoorYRb
import Derived.Test.YtoholjdojdmbkaaGreatDoorYKs
import Derived.Test.YtoholjdojdmbkaaGreatDoorTie
import Derived.Test.YtoholjdojdmbkaaGreatDoorCards
namespace Go.Proofs.YtoholjdojdmbkaaGreatDoor
open Go Go.RowKit Go.Dw Go.ChangeShapes Go.WideShapes Go.ChangeAt
set_option maxRecDepth 100000 in
theorem lexerNumbers_lifted (os : Os) (started : os.Started) (H : Type) (enc : TypeId × Value → H) :
    ReturnsInHanded {} Tryz.checked os 8 .any (fun w args => (Rows.lexerNumbersSpec.pre enc Tryz.prog Tryz.f8 [] false w args ∧ laidMetH Tryz.prog lxLaid w) ∧ sizedMet enc Tryz.prog Tryz.f8 (OpenSpec.ofChange Rows.lexerNumbersSpec) false w args)
      (Rows.lexerNumbersSpec.post enc Tryz.prog Tryz.f8 false true false false) := by
  refine returnsInHanded_of_change_and (C := Tryz.checked) (X := fun w _ => laidMetH Tryz.prog lxLaid w) (fun _ _ _ hh h => h.of_heap hh) own started (by kernel_rfl) Tryz.func8
    (ChangeSpec.witness_shaped (enc := enc) (C := Tryz.checked) (os := os) (X := fun w _ => laidMetH Tryz.prog lxLaid w) false (World.laidAll Tryz.prog os lxLaid) #[.int .i64 0, .int .i64 0, .bool false] 8 (World.laidAll_os _ _ _)
      (lx_shaped os _) (by kernel_rfl) (by kernel_rfl) (by kernel_rfl) (lx_met os _)) ?_
  intro W base args ds gs before hval0 hW _ _ hL _
  have hval : ∀ (j : Nat) t v, Tryz.f8.params[j]? = some t → args[j]? = some v → Value.okWide Tryz.prog W .any base t v := hval0
  have hW' := hW
  obtain ⟨p, q, hA0, hV, rfl, hfz, hnd⟩ := hW
  have hA : DataW.TrodAll enc Tryz.prog W 0 (fun _ => true) true Tryz.f8.params.toList args.toList ds p := hA0
  rw [Tryz.params8] at hA hval
  obtain ⟨v0, v1, v2, d0, d1, d2, p0, p1, p2, rfl, rfl, rfl, h0, h1, h2⟩ := trodAll_three hA
  obtain ⟨u0, rfl, _, _, hw0⟩ := open_int Tryz.underlying3 (hval 0 _ v0 rfl rfl) h0
  obtain ⟨u1, rfl, _, _, hw1⟩ := open_int Tryz.underlying3 (hval 1 _ v1 rfl rfl) h1
  obtain ⟨b2, rfl, _, _⟩ := open_bool Tryz.underlying4 (hval 2 _ v2 rfl rfl) h2
  exact fin_true rfl (by kernel_rfl) (by kernel_rfl) hW' rfl rfl rfl (numbers_ok u0 u1 (i64_bounds hw0) (i64_bounds hw1) b2 W (tabS_of_laid hL) (tabP_of_laid hL))
theorem lexerNumbers_row : Rows.LexerNumbersSaid :=
  OpenClaim.holds_of_wide 8 Tryz.f8 rfl rfl rfl rfl rfl rfl rfl ⟨rfl, rfl, rfl, rfl, rfl⟩ rfl rfl rfl rfl rfl (by kernel_rfl) Tryz.func8 (by kernel_rfl)
    (of_decide_eq_true (by kernel_rfl)) (by unfold Func.isWrapper; first | (rw [if_pos (by decide +kernel)]; kernel_rfl) | (rw [if_neg (by decide +kernel)]; exact ⟨rfl, rfl⟩))
    (fun os started H enc _ => lexerNumbers_lifted os started H enc)
theorem lexerNumbers_holds : Rows.LexerNumbersCardSaid :=
  Claim7.holds_tied_plain_at .later [] [.data, .data, .data, .data, .sentinel, .sentinel, .listed, .data, .pinned] true (true, "61d5449f289b5a2e451e918eae790f02ed5e9ba3fbebab91adf65fecef4ed2ae") true
    lexerNumbers_row (fun _ h => by cases h) (by kernel_rfl) (fun _ h => by cases h) lexerNumbers_row_tie rfl ⟨rfl, rfl⟩ (by kernel_rfl) rfl
    (fun f fn hf hfn => by
      obtain rfl : f = 8 := Option.some.inj ((show Tryz.prog.funcNamed "dowel/dowellaw35.LexerNumbers" = some 8 by kernel_rfl).symm.trans hf) |>.symm
      obtain rfl : fn = Tryz.f8 := (Option.some.inj (Tryz.func8.symm.trans hfn)).symm
      exact ⟨by kernel_rfl, fun j t ht => by
        rw [Tryz.params8] at ht
        have hm : t ∈ [3, 3, 4] := by simpa using Array.mem_of_getElem? ht
        have hall : ([3, 3, 4].all fun u => !Tryz.prog.wantsStandIn u) = true := by kernel_rfl
        exact (show Tryz.prog.wantsStandIn t = false by simpa using List.all_eq_true.1 hall t hm)⟩)
    (by kernel_rfl)
end Go.Proofs.YtoholjdojdmbkaaGreatDoor
