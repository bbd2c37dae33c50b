/-
  No cell of these rows narrows 'for every input' (looked for: loops, veiled, ifaces, maps, wideKeys, modest, calm, conditions, laid).
  DERIVED. THE GIVEN ROWS OF THIS SEAT. 10 by the template 'for every input the law returns true; each argument reads behind the call as it read before'; 0 by the template 'total and deterministic' (their statements: YtnlkffccobdbjaaGreatTotals.lean).
  GIVEN WITH THE SEED: the statements are not yours to turn. If you find one false, say at which input.
  Laid BY PROGRAM, IN A SANDBOX (cutbox-rows.mjs): the forced cells as the released guide's own fill.sh prints them over the translation 39332b50ede42138… (all of the seat's roots in one cut). By AI agents, Wed Nov 11 2026. No macro, syntax, notation, axiom, sorry.
-/
import Derived.Test.YtnlkffccobdbjaaGreatChecked
import GoSem.Claim
import GoSem.ClaimJoined
import GoSem.ClaimMapViews
import Derived.JoinedTies
import Derived.KernelRfl
namespace Go.Proofs.YtnlkffccobdbjaaGreat
/- THE CELL 'sum', in the pinned program and in every row, IS THE sha256 OF THE DUMP (.gsa) THAT YtnlkffccobdbjaaGreatProg.lean LOADS. Nothing in Lean hashes anything: it is a label: what it is worth is what the hold of that sum in a sandbox is worth. -/
noncomputable def Tryz.pinned : Pinned := { name := "ytnlkffccobdbjaagreat", sum := "39332b50ede42138ac19b9f54557ea7147f89d5eeaaa42882127e591cd04d523", checked := Tryz.checked }
namespace Rows
def none {H : Type} : Left H := { results := [], args := [] }

/-- 'dowellaw50.ScheduleBounds': WHATEVER THE INPUT: true; the input reads as it did. -/
def scheduleBoundsSpec : ChangeSpec := { name := "scheduleBounds", fn := fun _ => fun
  | [d] => { results := [.lit (.bool true)], args := [d] }
  | _ => none }
def scheduleBoundsRow : OpenClaim := { program := "ytnlkffccobdbjaagreat", sum := "39332b50ede42138ac19b9f54557ea7147f89d5eeaaa42882127e591cd04d523", func := "dowel/dowellaw50.ScheduleBounds", spec := "scheduleBounds", unfollowed := true, recurses := true, apart := false }
def ScheduleBoundsSaid : Prop := scheduleBoundsRow.holds Tryz.pinned (OpenSpec.ofChange scheduleBoundsSpec)

/-- ITS FALSE NEIGHBOUR: 'it returns false'. Refute it at one input. -/
def scheduleBoundsWrong : ChangeSpec := { name := "scheduleBounds", fn := fun _ => fun
  | [d] => { results := [.lit (.bool false)], args := [d] }
  | _ => none }
def ScheduleBoundsWrongFalsely : Prop := scheduleBoundsRow.holds Tryz.pinned (OpenSpec.ofChange scheduleBoundsWrong)

/-- 'dowellaw50.ScheduleVerifies': WHATEVER THE INPUT: true; the input reads as it did. -/
def scheduleVerifiesSpec : ChangeSpec := { name := "scheduleVerifies", fn := fun _ => fun
  | [d1, d2, d3] => { results := [.lit (.bool true)], args := [d1, d2, d3] }
  | _ => none }
def scheduleVerifiesRow : OpenClaim := { program := "ytnlkffccobdbjaagreat", sum := "39332b50ede42138ac19b9f54557ea7147f89d5eeaaa42882127e591cd04d523", func := "dowel/dowellaw50.ScheduleVerifies", spec := "scheduleVerifies", unfollowed := true, recurses := true, apart := false }
def ScheduleVerifiesSaid : Prop := scheduleVerifiesRow.holds Tryz.pinned (OpenSpec.ofChange scheduleVerifiesSpec)

/-- ITS FALSE NEIGHBOUR: 'it returns false'. Refute it at one input. -/
def scheduleVerifiesWrong : ChangeSpec := { name := "scheduleVerifies", fn := fun _ => fun
  | [d1, d2, d3] => { results := [.lit (.bool false)], args := [d1, d2, d3] }
  | _ => none }
def ScheduleVerifiesWrongFalsely : Prop := scheduleVerifiesRow.holds Tryz.pinned (OpenSpec.ofChange scheduleVerifiesWrong)

/-- 'dowellaw50.ScheduleBest': WHATEVER THE INPUT: true; the input reads as it did. -/
def scheduleBestSpec : ChangeSpec := { name := "scheduleBest", fn := fun _ => fun
  | [d] => { results := [.lit (.bool true)], args := [d] }
  | _ => none }
def scheduleBestRow : OpenClaim := { program := "ytnlkffccobdbjaagreat", sum := "39332b50ede42138ac19b9f54557ea7147f89d5eeaaa42882127e591cd04d523", func := "dowel/dowellaw50.ScheduleBest", spec := "scheduleBest", unfollowed := true, recurses := true, apart := false }
def ScheduleBestSaid : Prop := scheduleBestRow.holds Tryz.pinned (OpenSpec.ofChange scheduleBestSpec)

/-- ITS FALSE NEIGHBOUR: 'it returns false'. Refute it at one input. -/
def scheduleBestWrong : ChangeSpec := { name := "scheduleBest", fn := fun _ => fun
  | [d] => { results := [.lit (.bool false)], args := [d] }
  | _ => none }
def ScheduleBestWrongFalsely : Prop := scheduleBestRow.holds Tryz.pinned (OpenSpec.ofChange scheduleBestWrong)

/-- 'dowellaw50.ScheduleLists': WHATEVER THE INPUT: true; the input reads as it did. -/
def scheduleListsSpec : ChangeSpec := { name := "scheduleLists", fn := fun _ => fun
  | [d1, d2, d3] => { results := [.lit (.bool true)], args := [d1, d2, d3] }
  | _ => none }
def scheduleListsRow : OpenClaim := { program := "ytnlkffccobdbjaagreat", sum := "39332b50ede42138ac19b9f54557ea7147f89d5eeaaa42882127e591cd04d523", func := "dowel/dowellaw50.ScheduleLists", spec := "scheduleLists", unfollowed := true, recurses := true, apart := false }
def ScheduleListsSaid : Prop := scheduleListsRow.holds Tryz.pinned (OpenSpec.ofChange scheduleListsSpec)

/-- ITS FALSE NEIGHBOUR: 'it returns false'. Refute it at one input. -/
def scheduleListsWrong : ChangeSpec := { name := "scheduleLists", fn := fun _ => fun
  | [d1, d2, d3] => { results := [.lit (.bool false)], args := [d1, d2, d3] }
  | _ => none }
def ScheduleListsWrongFalsely : Prop := scheduleListsRow.holds Tryz.pinned (OpenSpec.ofChange scheduleListsWrong)

/-- 'dowellaw50.ScheduleShorter': WHATEVER THE INPUT: true; the input reads as it did. -/
def scheduleShorterSpec : ChangeSpec := { name := "scheduleShorter", fn := fun _ => fun
  | [d1, d2, d3] => { results := [.lit (.bool true)], args := [d1, d2, d3] }
  | _ => none }
def scheduleShorterRow : OpenClaim := { program := "ytnlkffccobdbjaagreat", sum := "39332b50ede42138ac19b9f54557ea7147f89d5eeaaa42882127e591cd04d523", func := "dowel/dowellaw50.ScheduleShorter", spec := "scheduleShorter", unfollowed := true, recurses := true, apart := false }
def ScheduleShorterSaid : Prop := scheduleShorterRow.holds Tryz.pinned (OpenSpec.ofChange scheduleShorterSpec)

/-- ITS FALSE NEIGHBOUR: 'it returns false'. Refute it at one input. -/
def scheduleShorterWrong : ChangeSpec := { name := "scheduleShorter", fn := fun _ => fun
  | [d1, d2, d3] => { results := [.lit (.bool false)], args := [d1, d2, d3] }
  | _ => none }
def ScheduleShorterWrongFalsely : Prop := scheduleShorterRow.holds Tryz.pinned (OpenSpec.ofChange scheduleShorterWrong)

/-- 'dowellaw50.ScheduleOrders': WHATEVER THE INPUT: true; the input reads as it did. -/
def scheduleOrdersSpec : ChangeSpec := { name := "scheduleOrders", fn := fun _ => fun
  | [d1, d2] => { results := [.lit (.bool true)], args := [d1, d2] }
  | _ => none }
def scheduleOrdersRow : OpenClaim := { program := "ytnlkffccobdbjaagreat", sum := "39332b50ede42138ac19b9f54557ea7147f89d5eeaaa42882127e591cd04d523", func := "dowel/dowellaw50.ScheduleOrders", spec := "scheduleOrders", unfollowed := true, recurses := true, apart := false }
def ScheduleOrdersSaid : Prop := scheduleOrdersRow.holds Tryz.pinned (OpenSpec.ofChange scheduleOrdersSpec)

/-- ITS FALSE NEIGHBOUR: 'it returns false'. Refute it at one input. -/
def scheduleOrdersWrong : ChangeSpec := { name := "scheduleOrders", fn := fun _ => fun
  | [d1, d2] => { results := [.lit (.bool false)], args := [d1, d2] }
  | _ => none }
def ScheduleOrdersWrongFalsely : Prop := scheduleOrdersRow.holds Tryz.pinned (OpenSpec.ofChange scheduleOrdersWrong)

/-- 'dowellaw50.ScheduleSound': WHATEVER THE INPUT: true; the input reads as it did. -/
def scheduleSoundSpec : ChangeSpec := { name := "scheduleSound", fn := fun _ => fun
  | [d1, d2, d3] => { results := [.lit (.bool true)], args := [d1, d2, d3] }
  | _ => none }
def scheduleSoundRow : OpenClaim := { program := "ytnlkffccobdbjaagreat", sum := "39332b50ede42138ac19b9f54557ea7147f89d5eeaaa42882127e591cd04d523", func := "dowel/dowellaw50.ScheduleSound", spec := "scheduleSound", unfollowed := true, recurses := true, apart := false }
def ScheduleSoundSaid : Prop := scheduleSoundRow.holds Tryz.pinned (OpenSpec.ofChange scheduleSoundSpec)

/-- ITS FALSE NEIGHBOUR: 'it returns false'. Refute it at one input. -/
def scheduleSoundWrong : ChangeSpec := { name := "scheduleSound", fn := fun _ => fun
  | [d1, d2, d3] => { results := [.lit (.bool false)], args := [d1, d2, d3] }
  | _ => none }
def ScheduleSoundWrongFalsely : Prop := scheduleSoundRow.holds Tryz.pinned (OpenSpec.ofChange scheduleSoundWrong)

/-- 'dowellaw50.ScheduleChecks': WHATEVER THE INPUT: true; the input reads as it did. -/
def scheduleChecksSpec : ChangeSpec := { name := "scheduleChecks", fn := fun _ => fun
  | [d1, d2] => { results := [.lit (.bool true)], args := [d1, d2] }
  | _ => none }
def scheduleChecksRow : OpenClaim := { program := "ytnlkffccobdbjaagreat", sum := "39332b50ede42138ac19b9f54557ea7147f89d5eeaaa42882127e591cd04d523", func := "dowel/dowellaw50.ScheduleChecks", spec := "scheduleChecks", unfollowed := true, recurses := true, apart := false }
def ScheduleChecksSaid : Prop := scheduleChecksRow.holds Tryz.pinned (OpenSpec.ofChange scheduleChecksSpec)

/-- ITS FALSE NEIGHBOUR: 'it returns false'. Refute it at one input. -/
def scheduleChecksWrong : ChangeSpec := { name := "scheduleChecks", fn := fun _ => fun
  | [d1, d2] => { results := [.lit (.bool false)], args := [d1, d2] }
  | _ => none }
def ScheduleChecksWrongFalsely : Prop := scheduleChecksRow.holds Tryz.pinned (OpenSpec.ofChange scheduleChecksWrong)

/-- 'dowellaw50.ScheduleRefuses': WHATEVER THE INPUT: true; the input reads as it did. -/
def scheduleRefusesSpec : ChangeSpec := { name := "scheduleRefuses", fn := fun _ => fun
  | [d1, d2] => { results := [.lit (.bool true)], args := [d1, d2] }
  | _ => none }
def scheduleRefusesRow : OpenClaim := { program := "ytnlkffccobdbjaagreat", sum := "39332b50ede42138ac19b9f54557ea7147f89d5eeaaa42882127e591cd04d523", func := "dowel/dowellaw50.ScheduleRefuses", spec := "scheduleRefuses", unfollowed := true, recurses := true, apart := false }
def ScheduleRefusesSaid : Prop := scheduleRefusesRow.holds Tryz.pinned (OpenSpec.ofChange scheduleRefusesSpec)

/-- ITS FALSE NEIGHBOUR: 'it returns false'. Refute it at one input. -/
def scheduleRefusesWrong : ChangeSpec := { name := "scheduleRefuses", fn := fun _ => fun
  | [d1, d2] => { results := [.lit (.bool false)], args := [d1, d2] }
  | _ => none }
def ScheduleRefusesWrongFalsely : Prop := scheduleRefusesRow.holds Tryz.pinned (OpenSpec.ofChange scheduleRefusesWrong)

/-- 'dowellaw50.ScheduleRight': WHATEVER THE INPUT: true; the input reads as it did. -/
def scheduleRightSpec : ChangeSpec := { name := "scheduleRight", fn := fun _ => fun
  | [d1, d2, d3] => { results := [.lit (.bool true)], args := [d1, d2, d3] }
  | _ => none }
def scheduleRightRow : OpenClaim := { program := "ytnlkffccobdbjaagreat", sum := "39332b50ede42138ac19b9f54557ea7147f89d5eeaaa42882127e591cd04d523", func := "dowel/dowellaw50.ScheduleRight", spec := "scheduleRight", unfollowed := true, recurses := true, apart := false }
def ScheduleRightSaid : Prop := scheduleRightRow.holds Tryz.pinned (OpenSpec.ofChange scheduleRightSpec)

/-- ITS FALSE NEIGHBOUR: 'it returns false'. Refute it at one input. -/
def scheduleRightWrong : ChangeSpec := { name := "scheduleRight", fn := fun _ => fun
  | [d1, d2, d3] => { results := [.lit (.bool false)], args := [d1, d2, d3] }
  | _ => none }
def ScheduleRightWrongFalsely : Prop := scheduleRightRow.holds Tryz.pinned (OpenSpec.ofChange scheduleRightWrong)

/- THE SECOND FORM. 'bulk': how many values and letters a reading holds, each counted each time it is reached (what is shared counts as often as it is met; a slice's spare places count too). A statement '..UptoSaid' is the law's where the arguments, and the package variables that the reading takes, are together of bulk at most 1048576: NARROWER than '..Said'. Prove '..Said' where nothing that the law and all that it calls make is longer than what came in: it says more and counts as full. Else prove '..UptoSaid'. A law counts once. -/
mutual
def uptoBulk {H : Type} : DataW H → Nat
  | .lit (.string bytes) => bytes.length + 1
  | .lit _ => 1
  | .nil => 1
  | .ptr d => uptoBulk d + 1
  | .slice elems spare => uptoBulkAll elems + uptoBulkAll spare + 1
  | .agg parts => uptoBulkAll parts + 1
  | .iface _ d => uptoBulk d + 1
  | .map entries => uptoBulkEntries entries + 1
  | .held _ => 1
def uptoBulkAll {H : Type} : List (DataW H) → Nat
  | [] => 0
  | d :: r => uptoBulk d + uptoBulkAll r
def uptoBulkEntries {H : Type} : List (Lit × DataW H) → Nat
  | [] => 0
  | x :: r => uptoBulkEntry x + uptoBulkEntries r
def uptoBulkEntry {H : Type} : Lit × DataW H → Nat
  | (.string bytes, d) => bytes.length + uptoBulk d + 1
  | (_, d) => uptoBulk d + 1
 end
def uptoSmall : (H : Type) → List (DataW H) → Bool := fun _ ds => decide (uptoBulkAll ds ≤ 1048576)
def OpenSpec.upto (s : _root_.Go.ChangeSpec) : _root_.Go.OpenSpec := { _root_.Go.OpenSpec.ofChange s with cond := some uptoSmall }

/-- 'dowellaw50.ScheduleBounds', WHERE WHAT IT READS IS OF BULK AT MOST 1048576: true; the input reads as it did. -/
def scheduleBoundsUptoRow : OpenClaim := { program := "ytnlkffccobdbjaagreat", sum := "39332b50ede42138ac19b9f54557ea7147f89d5eeaaa42882127e591cd04d523", func := "dowel/dowellaw50.ScheduleBounds", spec := "scheduleBounds", unfollowed := true, recurses := true, apart := false, narrowed := true }
def ScheduleBoundsUptoSaid : Prop := scheduleBoundsUptoRow.holds Tryz.pinned (OpenSpec.upto scheduleBoundsSpec)

/-- 'dowellaw50.ScheduleVerifies', WHERE WHAT IT READS IS OF BULK AT MOST 1048576: true; the input reads as it did. -/
def scheduleVerifiesUptoRow : OpenClaim := { program := "ytnlkffccobdbjaagreat", sum := "39332b50ede42138ac19b9f54557ea7147f89d5eeaaa42882127e591cd04d523", func := "dowel/dowellaw50.ScheduleVerifies", spec := "scheduleVerifies", unfollowed := true, recurses := true, apart := false, narrowed := true }
def ScheduleVerifiesUptoSaid : Prop := scheduleVerifiesUptoRow.holds Tryz.pinned (OpenSpec.upto scheduleVerifiesSpec)

/-- 'dowellaw50.ScheduleBest', WHERE WHAT IT READS IS OF BULK AT MOST 1048576: true; the input reads as it did. -/
def scheduleBestUptoRow : OpenClaim := { program := "ytnlkffccobdbjaagreat", sum := "39332b50ede42138ac19b9f54557ea7147f89d5eeaaa42882127e591cd04d523", func := "dowel/dowellaw50.ScheduleBest", spec := "scheduleBest", unfollowed := true, recurses := true, apart := false, narrowed := true }
def ScheduleBestUptoSaid : Prop := scheduleBestUptoRow.holds Tryz.pinned (OpenSpec.upto scheduleBestSpec)

/-- 'dowellaw50.ScheduleLists', WHERE WHAT IT READS IS OF BULK AT MOST 1048576: true; the input reads as it did. -/
def scheduleListsUptoRow : OpenClaim := { program := "ytnlkffccobdbjaagreat", sum := "39332b50ede42138ac19b9f54557ea7147f89d5eeaaa42882127e591cd04d523", func := "dowel/dowellaw50.ScheduleLists", spec := "scheduleLists", unfollowed := true, recurses := true, apart := false, narrowed := true }
def ScheduleListsUptoSaid : Prop := scheduleListsUptoRow.holds Tryz.pinned (OpenSpec.upto scheduleListsSpec)

/-- 'dowellaw50.ScheduleShorter', WHERE WHAT IT READS IS OF BULK AT MOST 1048576: true; the input reads as it did. -/
def scheduleShorterUptoRow : OpenClaim := { program := "ytnlkffccobdbjaagreat", sum := "39332b50ede42138ac19b9f54557ea7147f89d5eeaaa42882127e591cd04d523", func := "dowel/dowellaw50.ScheduleShorter", spec := "scheduleShorter", unfollowed := true, recurses := true, apart := false, narrowed := true }
def ScheduleShorterUptoSaid : Prop := scheduleShorterUptoRow.holds Tryz.pinned (OpenSpec.upto scheduleShorterSpec)

/-- 'dowellaw50.ScheduleOrders', WHERE WHAT IT READS IS OF BULK AT MOST 1048576: true; the input reads as it did. -/
def scheduleOrdersUptoRow : OpenClaim := { program := "ytnlkffccobdbjaagreat", sum := "39332b50ede42138ac19b9f54557ea7147f89d5eeaaa42882127e591cd04d523", func := "dowel/dowellaw50.ScheduleOrders", spec := "scheduleOrders", unfollowed := true, recurses := true, apart := false, narrowed := true }
def ScheduleOrdersUptoSaid : Prop := scheduleOrdersUptoRow.holds Tryz.pinned (OpenSpec.upto scheduleOrdersSpec)

/-- 'dowellaw50.ScheduleSound', WHERE WHAT IT READS IS OF BULK AT MOST 1048576: true; the input reads as it did. -/
def scheduleSoundUptoRow : OpenClaim := { program := "ytnlkffccobdbjaagreat", sum := "39332b50ede42138ac19b9f54557ea7147f89d5eeaaa42882127e591cd04d523", func := "dowel/dowellaw50.ScheduleSound", spec := "scheduleSound", unfollowed := true, recurses := true, apart := false, narrowed := true }
def ScheduleSoundUptoSaid : Prop := scheduleSoundUptoRow.holds Tryz.pinned (OpenSpec.upto scheduleSoundSpec)

/-- 'dowellaw50.ScheduleChecks', WHERE WHAT IT READS IS OF BULK AT MOST 1048576: true; the input reads as it did. -/
def scheduleChecksUptoRow : OpenClaim := { program := "ytnlkffccobdbjaagreat", sum := "39332b50ede42138ac19b9f54557ea7147f89d5eeaaa42882127e591cd04d523", func := "dowel/dowellaw50.ScheduleChecks", spec := "scheduleChecks", unfollowed := true, recurses := true, apart := false, narrowed := true }
def ScheduleChecksUptoSaid : Prop := scheduleChecksUptoRow.holds Tryz.pinned (OpenSpec.upto scheduleChecksSpec)

/-- 'dowellaw50.ScheduleRefuses', WHERE WHAT IT READS IS OF BULK AT MOST 1048576: true; the input reads as it did. -/
def scheduleRefusesUptoRow : OpenClaim := { program := "ytnlkffccobdbjaagreat", sum := "39332b50ede42138ac19b9f54557ea7147f89d5eeaaa42882127e591cd04d523", func := "dowel/dowellaw50.ScheduleRefuses", spec := "scheduleRefuses", unfollowed := true, recurses := true, apart := false, narrowed := true }
def ScheduleRefusesUptoSaid : Prop := scheduleRefusesUptoRow.holds Tryz.pinned (OpenSpec.upto scheduleRefusesSpec)

/-- 'dowellaw50.ScheduleRight', WHERE WHAT IT READS IS OF BULK AT MOST 1048576: true; the input reads as it did. -/
def scheduleRightUptoRow : OpenClaim := { program := "ytnlkffccobdbjaagreat", sum := "39332b50ede42138ac19b9f54557ea7147f89d5eeaaa42882127e591cd04d523", func := "dowel/dowellaw50.ScheduleRight", spec := "scheduleRight", unfollowed := true, recurses := true, apart := false, narrowed := true }
def ScheduleRightUptoSaid : Prop := scheduleRightUptoRow.holds Tryz.pinned (OpenSpec.upto scheduleRightSpec)

end Rows
end Go.Proofs.YtnlkffccobdbjaaGreat
