/-
  No cell of these rows narrows 'for every input' (looked for: loops, veiled, ifaces, maps, wideKeys, modest, calm, conditions, laid).
  DERIVED. THE GIVEN ROWS OF THIS SEAT. 5 by the template 'for every input the law returns true; each argument reads behind the call as it read before'; 0 by the template 'total and deterministic' (their statements: YtdhipofjafecoaaTotals.lean).
  GIVEN WITH THE SEED: the statements are not yours to turn. If you find one false, say at which input.
  Laid BY PROGRAM, IN A SANDBOX (cutbox-rows.mjs): the forced cells as the released guide's own fill.sh prints them over the translation 252ac29f6b2523ef… (all of the seat's roots in one cut). By AI agents, Wed Nov 11 2026. No macro, syntax, notation, axiom, sorry.
-/
import Derived.Test.YtdhipofjafecoaaChecked
import GoSem.Claim
import GoSem.ClaimJoined
import GoSem.ClaimMapViews
import Derived.JoinedTies
import Derived.KernelRfl
namespace Go.Proofs.Ytdhipofjafecoaa
/- THE CELL 'sum', in the pinned program and in every row, IS THE sha256 OF THE DUMP (.gsa) THAT YtdhipofjafecoaaProg.lean LOADS. Nothing in Lean hashes anything: it is a label: what it is worth is what the hold of that sum in a sandbox is worth. -/
noncomputable def Try.pinned : Pinned := { name := "ytdhipofjafecoaa", sum := "252ac29f6b2523efb6f1fc03f8855b5c0ee5eb08b231d5750db6d29fcde44451", checked := Try.checked }
namespace Rows
def none {H : Type} : Left H := { results := [], args := [] }

/-- 'ossuarylaw13.RunsTells': WHATEVER THE INPUT: true; the input reads as it did. -/
def runsTellsSpec : ChangeSpec := { name := "runsTells", fn := fun _ => fun
  | [d1, d2, d3] => { results := [.lit (.bool true)], args := [d1, d2, d3] }
  | _ => none }
def runsTellsRow : OpenClaim := { program := "ytdhipofjafecoaa", sum := "252ac29f6b2523efb6f1fc03f8855b5c0ee5eb08b231d5750db6d29fcde44451", func := "ossuary/ossuarylaw13.RunsTells", spec := "runsTells", unfollowed := true, recurses := true, apart := false }
def RunsTellsSaid : Prop := runsTellsRow.holds Try.pinned (OpenSpec.ofChange runsTellsSpec)

/-- ITS FALSE NEIGHBOUR: 'it returns false'. Refute it at one input. -/
def runsTellsWrong : ChangeSpec := { name := "runsTells", fn := fun _ => fun
  | [d1, d2, d3] => { results := [.lit (.bool false)], args := [d1, d2, d3] }
  | _ => none }
def RunsTellsWrongFalsely : Prop := runsTellsRow.holds Try.pinned (OpenSpec.ofChange runsTellsWrong)

/-- 'ossuarylaw13.RunsFirst': WHATEVER THE INPUT: true; the input reads as it did. -/
def runsFirstSpec : ChangeSpec := { name := "runsFirst", fn := fun _ => fun
  | [d1, d2, d3] => { results := [.lit (.bool true)], args := [d1, d2, d3] }
  | _ => none }
def runsFirstRow : OpenClaim := { program := "ytdhipofjafecoaa", sum := "252ac29f6b2523efb6f1fc03f8855b5c0ee5eb08b231d5750db6d29fcde44451", func := "ossuary/ossuarylaw13.RunsFirst", spec := "runsFirst", unfollowed := true, recurses := true, apart := false }
def RunsFirstSaid : Prop := runsFirstRow.holds Try.pinned (OpenSpec.ofChange runsFirstSpec)

/-- ITS FALSE NEIGHBOUR: 'it returns false'. Refute it at one input. -/
def runsFirstWrong : ChangeSpec := { name := "runsFirst", fn := fun _ => fun
  | [d1, d2, d3] => { results := [.lit (.bool false)], args := [d1, d2, d3] }
  | _ => none }
def RunsFirstWrongFalsely : Prop := runsFirstRow.holds Try.pinned (OpenSpec.ofChange runsFirstWrong)

/-- 'ossuarylaw13.RunsMarks': WHATEVER THE INPUT: true; the input reads as it did. -/
def runsMarksSpec : ChangeSpec := { name := "runsMarks", fn := fun _ => fun
  | [d1, d2] => { results := [.lit (.bool true)], args := [d1, d2] }
  | _ => none }
def runsMarksRow : OpenClaim := { program := "ytdhipofjafecoaa", sum := "252ac29f6b2523efb6f1fc03f8855b5c0ee5eb08b231d5750db6d29fcde44451", func := "ossuary/ossuarylaw13.RunsMarks", spec := "runsMarks", unfollowed := true, recurses := true, apart := false }
def RunsMarksSaid : Prop := runsMarksRow.holds Try.pinned (OpenSpec.ofChange runsMarksSpec)

/-- ITS FALSE NEIGHBOUR: 'it returns false'. Refute it at one input. -/
def runsMarksWrong : ChangeSpec := { name := "runsMarks", fn := fun _ => fun
  | [d1, d2] => { results := [.lit (.bool false)], args := [d1, d2] }
  | _ => none }
def RunsMarksWrongFalsely : Prop := runsMarksRow.holds Try.pinned (OpenSpec.ofChange runsMarksWrong)

/-- 'ossuarylaw13.RunsShift': WHATEVER THE INPUT: true; the input reads as it did. -/
def runsShiftSpec : ChangeSpec := { name := "runsShift", fn := fun _ => fun
  | [d1, d2, d3] => { results := [.lit (.bool true)], args := [d1, d2, d3] }
  | _ => none }
def runsShiftRow : OpenClaim := { program := "ytdhipofjafecoaa", sum := "252ac29f6b2523efb6f1fc03f8855b5c0ee5eb08b231d5750db6d29fcde44451", func := "ossuary/ossuarylaw13.RunsShift", spec := "runsShift", unfollowed := true, recurses := true, apart := false }
def RunsShiftSaid : Prop := runsShiftRow.holds Try.pinned (OpenSpec.ofChange runsShiftSpec)

/-- ITS FALSE NEIGHBOUR: 'it returns false'. Refute it at one input. -/
def runsShiftWrong : ChangeSpec := { name := "runsShift", fn := fun _ => fun
  | [d1, d2, d3] => { results := [.lit (.bool false)], args := [d1, d2, d3] }
  | _ => none }
def RunsShiftWrongFalsely : Prop := runsShiftRow.holds Try.pinned (OpenSpec.ofChange runsShiftWrong)

/-- 'ossuarylaw13.RunsEnds': WHATEVER THE INPUT: true; the input reads as it did. -/
def runsEndsSpec : ChangeSpec := { name := "runsEnds", fn := fun _ => fun
  | [d1, d2] => { results := [.lit (.bool true)], args := [d1, d2] }
  | _ => none }
def runsEndsRow : OpenClaim := { program := "ytdhipofjafecoaa", sum := "252ac29f6b2523efb6f1fc03f8855b5c0ee5eb08b231d5750db6d29fcde44451", func := "ossuary/ossuarylaw13.RunsEnds", spec := "runsEnds", unfollowed := true, recurses := true, apart := false }
def RunsEndsSaid : Prop := runsEndsRow.holds Try.pinned (OpenSpec.ofChange runsEndsSpec)

/-- ITS FALSE NEIGHBOUR: 'it returns false'. Refute it at one input. -/
def runsEndsWrong : ChangeSpec := { name := "runsEnds", fn := fun _ => fun
  | [d1, d2] => { results := [.lit (.bool false)], args := [d1, d2] }
  | _ => none }
def RunsEndsWrongFalsely : Prop := runsEndsRow.holds Try.pinned (OpenSpec.ofChange runsEndsWrong)

/- THE SECOND FORM. 'bulk': how many values and letters a reading holds, each counted each time it is reached (what is shared counts as often as it is met; a slice's spare places count too). A statement '..UptoSaid' is the law's where the arguments, and the package variables that the reading takes, are together of bulk at most 1048576: NARROWER than '..Said'. Prove '..Said' where nothing that the law and all that it calls make is longer than what came in: it says more and counts as full. Else prove '..UptoSaid'. A law counts once. -/
mutual
def uptoBulk {H : Type} : DataW H → Nat
  | .lit (.string bytes) => bytes.length + 1
  | .lit _ => 1
  | .nil => 1
  | .ptr d => uptoBulk d + 1
  | .slice elems spare => uptoBulkAll elems + uptoBulkAll spare + 1
  | .agg parts => uptoBulkAll parts + 1
  | .iface _ d => uptoBulk d + 1
  | .map entries => uptoBulkEntries entries + 1
  | .held _ => 1
def uptoBulkAll {H : Type} : List (DataW H) → Nat
  | [] => 0
  | d :: r => uptoBulk d + uptoBulkAll r
def uptoBulkEntries {H : Type} : List (Lit × DataW H) → Nat
  | [] => 0
  | x :: r => uptoBulkEntry x + uptoBulkEntries r
def uptoBulkEntry {H : Type} : Lit × DataW H → Nat
  | (.string bytes, d) => bytes.length + uptoBulk d + 1
  | (_, d) => uptoBulk d + 1
 end
def uptoSmall : (H : Type) → List (DataW H) → Bool := fun _ ds => decide (uptoBulkAll ds ≤ 1048576)
def OpenSpec.upto (s : _root_.Go.ChangeSpec) : _root_.Go.OpenSpec := { _root_.Go.OpenSpec.ofChange s with cond := some uptoSmall }

/-- 'ossuarylaw13.RunsTells', WHERE WHAT IT READS IS OF BULK AT MOST 1048576: true; the input reads as it did. -/
def runsTellsUptoRow : OpenClaim := { program := "ytdhipofjafecoaa", sum := "252ac29f6b2523efb6f1fc03f8855b5c0ee5eb08b231d5750db6d29fcde44451", func := "ossuary/ossuarylaw13.RunsTells", spec := "runsTells", unfollowed := true, recurses := true, apart := false, narrowed := true }
def RunsTellsUptoSaid : Prop := runsTellsUptoRow.holds Try.pinned (OpenSpec.upto runsTellsSpec)

/-- 'ossuarylaw13.RunsFirst', WHERE WHAT IT READS IS OF BULK AT MOST 1048576: true; the input reads as it did. -/
def runsFirstUptoRow : OpenClaim := { program := "ytdhipofjafecoaa", sum := "252ac29f6b2523efb6f1fc03f8855b5c0ee5eb08b231d5750db6d29fcde44451", func := "ossuary/ossuarylaw13.RunsFirst", spec := "runsFirst", unfollowed := true, recurses := true, apart := false, narrowed := true }
def RunsFirstUptoSaid : Prop := runsFirstUptoRow.holds Try.pinned (OpenSpec.upto runsFirstSpec)

/-- 'ossuarylaw13.RunsMarks', WHERE WHAT IT READS IS OF BULK AT MOST 1048576: true; the input reads as it did. -/
def runsMarksUptoRow : OpenClaim := { program := "ytdhipofjafecoaa", sum := "252ac29f6b2523efb6f1fc03f8855b5c0ee5eb08b231d5750db6d29fcde44451", func := "ossuary/ossuarylaw13.RunsMarks", spec := "runsMarks", unfollowed := true, recurses := true, apart := false, narrowed := true }
def RunsMarksUptoSaid : Prop := runsMarksUptoRow.holds Try.pinned (OpenSpec.upto runsMarksSpec)

/-- 'ossuarylaw13.RunsShift', WHERE WHAT IT READS IS OF BULK AT MOST 1048576: true; the input reads as it did. -/
def runsShiftUptoRow : OpenClaim := { program := "ytdhipofjafecoaa", sum := "252ac29f6b2523efb6f1fc03f8855b5c0ee5eb08b231d5750db6d29fcde44451", func := "ossuary/ossuarylaw13.RunsShift", spec := "runsShift", unfollowed := true, recurses := true, apart := false, narrowed := true }
def RunsShiftUptoSaid : Prop := runsShiftUptoRow.holds Try.pinned (OpenSpec.upto runsShiftSpec)

/-- 'ossuarylaw13.RunsEnds', WHERE WHAT IT READS IS OF BULK AT MOST 1048576: true; the input reads as it did. -/
def runsEndsUptoRow : OpenClaim := { program := "ytdhipofjafecoaa", sum := "252ac29f6b2523efb6f1fc03f8855b5c0ee5eb08b231d5750db6d29fcde44451", func := "ossuary/ossuarylaw13.RunsEnds", spec := "runsEnds", unfollowed := true, recurses := true, apart := false, narrowed := true }
def RunsEndsUptoSaid : Prop := runsEndsUptoRow.holds Try.pinned (OpenSpec.upto runsEndsSpec)

end Rows
end Go.Proofs.Ytdhipofjafecoaa
