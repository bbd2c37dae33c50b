/- The program's types in the rows' form; a law's row off its contract. No condition. -/
import Derived.Test.YtdjhgcpmipglfaaR1
namespace Go.Proofs.Ytdjhgcpmipglfaa
open Go Go.RowKit Go.Dw Go.ChangeShapes Go.WideShapes Go.ChangeAt
theorem own : ownKnob Try.prog.godebug = none := by kernel_rfl
theorem laidOut : laidOutB Try.prog = true := by kernel_rfl
theorem isEdge : IsEdge Try.prog 32 3 { name := "From", type := 3, offset := 0, embedded := false, tag := "", pkgPath := "", byteOffset := 0 } { name := "To", type := 3, offset := 1, embedded := false, tag := "", pkgPath := "", byteOffset := 8 } := ⟨Try.underlying32, rfl, rfl, rfl, rfl, Try.underlying3, by kernel_rfl, by kernel_rfl⟩
section
variable {H : Type} {enc : TypeId × Value → H} {W : World} {r : Reach} {b0 : Nat} {v : Value} {d : DataW H} {ps : List MemPlace}
set_option maxRecDepth 100000 in
theorem openEdges (hval : Value.okWide Try.prog W r b0 22 v) (hd : DataW.Trod enc Try.prog W 0 (fun _ => true) true 22 v d ps) : ∃ a n c E, v = .slice a n c ∧ Sl (encF fE) 2 (Hp.whole W) a n c E :=
  open_edges isEdge Try.underlying22 hval hd
set_option maxRecDepth 100000 in
theorem openInts (hval : Value.okWide Try.prog W r b0 42 v) (hd : DataW.Trod enc Try.prog W 0 (fun _ => true) true 42 v d ps) : ∃ a n c E, v = .slice a n c ∧ Sl (encF fI) 1 (Hp.whole W) a n c E :=
  open_intsV Try.underlying3 (by kernel_rfl) Try.underlying42 hval hd
set_option maxRecDepth 100000 in
theorem openGraph (hval : Value.okWide Try.prog W r b0 26 v) (hd : DataW.Trod enc Try.prog W 0 (fun _ => true) true 26 v d ps) : ∃ N a n c E, v = gv N a n c ∧ Sl (encF fE) 2 (Hp.whole W) a n c E :=
  open_graph isEdge Try.underlying22 Try.underlying26 rfl rfl rfl rfl (by kernel_rfl) (by kernel_rfl) hval hd
end
/-- what a law's contract gives the row -/
theorem fin_true {f : Func} {s : ChangeSpec} {H : Type} {enc : TypeId × Value → H} {F : Nat} {W : World} {args : Array Value} {ds gs : List (DataW H)} {before : List MemPlace}
    (hvars : s.vars = []) (hts : f.params.toList.all (fun t => Try.prog.readableRec t && decide (t < Try.prog.types.size)) = true) (hr : f.resultTypes = #[4])
    (hW : DataW.Whole enc Try.prog f.params.toList s.vars false W args.toList ds gs before)
    (hfn : (s.fn H ds).results = [.lit (.bool true)]) (hfa : (s.fn H ds).args = ds) (hfv : (s.fn H ds).vars = [])
    (hc : CallsE Try.prog F args W (RetV W (.bool true))) :
    Calls Try.prog F args W fun e W' => ∃ v, e = .returned v ∧ s.post enc Try.prog f false true false false W args v W' := by
  obtain rfl : gs = [] := by
    obtain ⟨p, q, _, hV, _⟩ := hW
    rw [hvars] at hV
    exact (trodVars_none hV).1
  refine hc.2.mono fun e W' h => ?_
  obtain ⟨v, cs, rfl, hok, rfl, rfl⟩ := h
  exact ⟨_, rfl, post_true laidOut hvars hts hr Try.underlying4 hW hok.below (by rw [List.append_nil]; exact hfn) (by rw [List.append_nil]; exact hfa) (by rw [List.append_nil]; exact hfv)⟩
end Go.Proofs.Ytdjhgcpmipglfaa
