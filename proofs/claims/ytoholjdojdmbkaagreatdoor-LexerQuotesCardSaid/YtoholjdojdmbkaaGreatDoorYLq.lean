/- The tied card of LexerQuotes: for every input the law returns true, and its arguments read as before; the listed variables as the program's text lays them. No condition. -/
import Derived.Test.YtoholjdojdmbkaaGreatDoorYR9
import Derived.Test.YtoholjdojdmbkaaGreatDoorYN2
import Derived.Test.YtoholjdojdmbkaaGreatDoorTie
import Derived.Test.YtoholjdojdmbkaaGreatDoorCards
namespace Go.Proofs.YtoholjdojdmbkaaGreatDoor
open Go Go.RowKit Go.Dw Go.ChangeShapes Go.WideShapes Go.ChangeAt
set_option maxRecDepth 100000 in
theorem lexerQuotes_lifted (os : Os) (started : os.Started) (H : Type) (enc : TypeId × Value → H) :
    ReturnsInHanded {} Tryz.checked os 10 .any (fun w args => (Rows.lexerQuotesSpec.pre enc Tryz.prog Tryz.f10 [] false w args ∧ laidMetH Tryz.prog lxLaid w) ∧ sizedMet enc Tryz.prog Tryz.f10 (OpenSpec.ofChange Rows.lexerQuotesSpec) false w args)
      (Rows.lexerQuotesSpec.post enc Tryz.prog Tryz.f10 false true false false) := by
  refine returnsInHanded_of_change_and (C := Tryz.checked) (X := fun w _ => laidMetH Tryz.prog lxLaid w) (fun _ _ _ hh h => h.of_heap hh) own started (by kernel_rfl) Tryz.func10
    (ChangeSpec.witness_shaped (enc := enc) (C := Tryz.checked) (os := os) (X := fun w _ => laidMetH Tryz.prog lxLaid w) false (World.laidAll Tryz.prog os lxLaid) #[.string ⟨#[]⟩, .int .u8 0] 8 (World.laidAll_os _ _ _)
      (lx_shaped os _) (by kernel_rfl) (by kernel_rfl) (by kernel_rfl) (lx_met os _)) ?_
  intro W base args ds gs before hval0 hW _ _ hL _
  have hval : ∀ (j : Nat) t v, Tryz.f10.params[j]? = some t → args[j]? = some v → Value.okWide Tryz.prog W .any base t v := hval0
  have hW' := hW
  obtain ⟨p, q, hA0, hV, rfl, hfz, hnd⟩ := hW
  have hA : DataW.TrodAll enc Tryz.prog W 0 (fun _ => true) true Tryz.f10.params.toList args.toList ds p := hA0
  rw [Tryz.params10] at hA hval
  obtain ⟨v0, v1, d0, d1, p0, p1, rfl, rfl, rfl, h0, h1⟩ := trodAll_two hA
  obtain ⟨s0, rfl⟩ := openText (hval 0 _ v0 rfl rfl) h0
  obtain ⟨u1, rfl, _, _, hw1⟩ := open_int Tryz.underlying5 (hval 1 _ v1 rfl rfl) h1
  exact fin_true rfl (by kernel_rfl) (by kernel_rfl) hW' rfl rfl rfl (quotes_ok s0 u1 (oct_bounds hw1) W (tabS_of_laid hL))
theorem lexerQuotes_row : Rows.LexerQuotesSaid :=
  OpenClaim.holds_of_wide 10 Tryz.f10 rfl rfl rfl rfl rfl rfl rfl ⟨rfl, rfl, rfl, rfl, rfl⟩ rfl rfl rfl rfl rfl (by kernel_rfl) Tryz.func10 (by kernel_rfl)
    (of_decide_eq_true (by kernel_rfl)) (by unfold Func.isWrapper; first | (rw [if_pos (by decide +kernel)]; kernel_rfl) | (rw [if_neg (by decide +kernel)]; exact ⟨rfl, rfl⟩))
    (fun os started H enc _ => lexerQuotes_lifted os started H enc)
theorem lexerQuotes_holds : Rows.LexerQuotesCardSaid :=
  Claim7.holds_tied_plain_at .later [] [.data, .data, .data, .data, .sentinel, .sentinel, .listed, .data, .pinned] true (true, "61d5449f289b5a2e451e918eae790f02ed5e9ba3fbebab91adf65fecef4ed2ae") true
    lexerQuotes_row (fun _ h => by cases h) (by kernel_rfl) (fun _ h => by cases h) lexerQuotes_row_tie rfl ⟨rfl, rfl⟩ (by kernel_rfl) rfl
    (fun f fn hf hfn => by
      obtain rfl : f = 10 := Option.some.inj ((show Tryz.prog.funcNamed "dowel/dowellaw35.LexerQuotes" = some 10 by kernel_rfl).symm.trans hf) |>.symm
      obtain rfl : fn = Tryz.f10 := (Option.some.inj (Tryz.func10.symm.trans hfn)).symm
      exact ⟨by kernel_rfl, fun j t ht => by
        rw [Tryz.params10] at ht
        have hm : t ∈ [9, 5] := by simpa using Array.mem_of_getElem? ht
        have hall : ([9, 5].all fun u => !Tryz.prog.wantsStandIn u) = true := by kernel_rfl
        exact (show Tryz.prog.wantsStandIn t = false by simpa using List.all_eq_true.1 hall t hm)⟩)
    (by kernel_rfl)
end Go.Proofs.YtoholjdojdmbkaaGreatDoor
