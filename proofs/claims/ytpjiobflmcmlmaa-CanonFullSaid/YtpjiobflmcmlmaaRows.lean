/-
  No cell of these rows narrows 'for every input' (looked for: loops, veiled, ifaces, maps, wideKeys, modest, calm, conditions, laid).
  DERIVED. THE GIVEN ROWS OF THIS SEAT. 5 by the template 'for every input the law returns true; each argument reads behind the call as it read before'; 0 by the template 'total and deterministic' (their statements: YtpjiobflmcmlmaaTotals.lean).
  GIVEN WITH THE SEED: the statements are not yours to turn. If you find one false, say at which input.
  Laid BY PROGRAM, IN A SANDBOX (cutbox-rows.mjs): the forced cells as the released guide's own fill.sh prints them over the translation 6c63b4869f18b123… (all of the seat's roots in one cut). By AI agents, Wed Nov 11 2026. No macro, syntax, notation, axiom, sorry.
-/
import Derived.Test.YtpjiobflmcmlmaaChecked
import GoSem.Claim
import GoSem.ClaimJoined
import GoSem.ClaimMapViews
import Derived.JoinedTies
import Derived.KernelRfl
namespace Go.Proofs.Ytpjiobflmcmlmaa
/- THE CELL 'sum', in the pinned program and in every row, IS THE sha256 OF THE DUMP (.gsa) THAT YtpjiobflmcmlmaaProg.lean LOADS. Nothing in Lean hashes anything: it is a label: what it is worth is what the hold of that sum in a sandbox is worth. -/
noncomputable def Try.pinned : Pinned := { name := "ytpjiobflmcmlmaa", sum := "6c63b4869f18b123d9ff65e2b5349fadfff002574452c7e9ccec220e2092ea47", checked := Try.checked }
namespace Rows
def none {H : Type} : Left H := { results := [], args := [] }

/-- 'ossuarylaw06.CanonTells': WHATEVER THE INPUT: true; the input reads as it did. -/
def canonTellsSpec : ChangeSpec := { name := "canonTells", fn := fun _ => fun
  | [d1, d2, d3] => { results := [.lit (.bool true)], args := [d1, d2, d3] }
  | _ => none }
def canonTellsRow : OpenClaim := { program := "ytpjiobflmcmlmaa", sum := "6c63b4869f18b123d9ff65e2b5349fadfff002574452c7e9ccec220e2092ea47", func := "ossuary/ossuarylaw06.CanonTells", spec := "canonTells", apart := false }
def CanonTellsSaid : Prop := canonTellsRow.holds Try.pinned (OpenSpec.ofChange canonTellsSpec)

/-- ITS FALSE NEIGHBOUR: 'it returns false'. Refute it at one input. -/
def canonTellsWrong : ChangeSpec := { name := "canonTells", fn := fun _ => fun
  | [d1, d2, d3] => { results := [.lit (.bool false)], args := [d1, d2, d3] }
  | _ => none }
def CanonTellsWrongFalsely : Prop := canonTellsRow.holds Try.pinned (OpenSpec.ofChange canonTellsWrong)

/-- 'ossuarylaw06.CanonBack': WHATEVER THE INPUT: true; the input reads as it did. -/
def canonBackSpec : ChangeSpec := { name := "canonBack", fn := fun _ => fun
  | [d1, d2, d3] => { results := [.lit (.bool true)], args := [d1, d2, d3] }
  | _ => none }
def canonBackRow : OpenClaim := { program := "ytpjiobflmcmlmaa", sum := "6c63b4869f18b123d9ff65e2b5349fadfff002574452c7e9ccec220e2092ea47", func := "ossuary/ossuarylaw06.CanonBack", spec := "canonBack", apart := false }
def CanonBackSaid : Prop := canonBackRow.holds Try.pinned (OpenSpec.ofChange canonBackSpec)

/-- ITS FALSE NEIGHBOUR: 'it returns false'. Refute it at one input. -/
def canonBackWrong : ChangeSpec := { name := "canonBack", fn := fun _ => fun
  | [d1, d2, d3] => { results := [.lit (.bool false)], args := [d1, d2, d3] }
  | _ => none }
def CanonBackWrongFalsely : Prop := canonBackRow.holds Try.pinned (OpenSpec.ofChange canonBackWrong)

/-- 'ossuarylaw06.CanonFull': WHATEVER THE INPUT: true; the input reads as it did. -/
def canonFullSpec : ChangeSpec := { name := "canonFull", fn := fun _ => fun
  | [d1, d2] => { results := [.lit (.bool true)], args := [d1, d2] }
  | _ => none }
def canonFullRow : OpenClaim := { program := "ytpjiobflmcmlmaa", sum := "6c63b4869f18b123d9ff65e2b5349fadfff002574452c7e9ccec220e2092ea47", func := "ossuary/ossuarylaw06.CanonFull", spec := "canonFull", apart := false }
def CanonFullSaid : Prop := canonFullRow.holds Try.pinned (OpenSpec.ofChange canonFullSpec)

/-- ITS FALSE NEIGHBOUR: 'it returns false'. Refute it at one input. -/
def canonFullWrong : ChangeSpec := { name := "canonFull", fn := fun _ => fun
  | [d1, d2] => { results := [.lit (.bool false)], args := [d1, d2] }
  | _ => none }
def CanonFullWrongFalsely : Prop := canonFullRow.holds Try.pinned (OpenSpec.ofChange canonFullWrong)

/-- 'ossuarylaw06.CanonRises': WHATEVER THE INPUT: true; the input reads as it did. -/
def canonRisesSpec : ChangeSpec := { name := "canonRises", fn := fun _ => fun
  | [d1, d2, d3] => { results := [.lit (.bool true)], args := [d1, d2, d3] }
  | _ => none }
def canonRisesRow : OpenClaim := { program := "ytpjiobflmcmlmaa", sum := "6c63b4869f18b123d9ff65e2b5349fadfff002574452c7e9ccec220e2092ea47", func := "ossuary/ossuarylaw06.CanonRises", spec := "canonRises", apart := false }
def CanonRisesSaid : Prop := canonRisesRow.holds Try.pinned (OpenSpec.ofChange canonRisesSpec)

/-- ITS FALSE NEIGHBOUR: 'it returns false'. Refute it at one input. -/
def canonRisesWrong : ChangeSpec := { name := "canonRises", fn := fun _ => fun
  | [d1, d2, d3] => { results := [.lit (.bool false)], args := [d1, d2, d3] }
  | _ => none }
def CanonRisesWrongFalsely : Prop := canonRisesRow.holds Try.pinned (OpenSpec.ofChange canonRisesWrong)

/-- 'ossuarylaw06.CanonRow': WHATEVER THE INPUT: true; the input reads as it did. -/
def canonRowSpec : ChangeSpec := { name := "canonRow", fn := fun _ => fun
  | [d1, d2] => { results := [.lit (.bool true)], args := [d1, d2] }
  | _ => none }
def canonRowRow : OpenClaim := { program := "ytpjiobflmcmlmaa", sum := "6c63b4869f18b123d9ff65e2b5349fadfff002574452c7e9ccec220e2092ea47", func := "ossuary/ossuarylaw06.CanonRow", spec := "canonRow", apart := false }
def CanonRowSaid : Prop := canonRowRow.holds Try.pinned (OpenSpec.ofChange canonRowSpec)

/-- ITS FALSE NEIGHBOUR: 'it returns false'. Refute it at one input. -/
def canonRowWrong : ChangeSpec := { name := "canonRow", fn := fun _ => fun
  | [d1, d2] => { results := [.lit (.bool false)], args := [d1, d2] }
  | _ => none }
def CanonRowWrongFalsely : Prop := canonRowRow.holds Try.pinned (OpenSpec.ofChange canonRowWrong)

/- THE SECOND FORM. 'bulk': how many values and letters a reading holds, each counted each time it is reached (what is shared counts as often as it is met; a slice's spare places count too). A statement '..UptoSaid' is the law's where the arguments, and the package variables that the reading takes, are together of bulk at most 1048576: NARROWER than '..Said'. Prove '..Said' where nothing that the law and all that it calls make is longer than what came in: it says more and counts as full. Else prove '..UptoSaid'. A law counts once. -/
mutual
def uptoBulk {H : Type} : DataW H → Nat
  | .lit (.string bytes) => bytes.length + 1
  | .lit _ => 1
  | .nil => 1
  | .ptr d => uptoBulk d + 1
  | .slice elems spare => uptoBulkAll elems + uptoBulkAll spare + 1
  | .agg parts => uptoBulkAll parts + 1
  | .iface _ d => uptoBulk d + 1
  | .map entries => uptoBulkEntries entries + 1
  | .held _ => 1
def uptoBulkAll {H : Type} : List (DataW H) → Nat
  | [] => 0
  | d :: r => uptoBulk d + uptoBulkAll r
def uptoBulkEntries {H : Type} : List (Lit × DataW H) → Nat
  | [] => 0
  | x :: r => uptoBulkEntry x + uptoBulkEntries r
def uptoBulkEntry {H : Type} : Lit × DataW H → Nat
  | (.string bytes, d) => bytes.length + uptoBulk d + 1
  | (_, d) => uptoBulk d + 1
 end
def uptoSmall : (H : Type) → List (DataW H) → Bool := fun _ ds => decide (uptoBulkAll ds ≤ 1048576)
def OpenSpec.upto (s : _root_.Go.ChangeSpec) : _root_.Go.OpenSpec := { _root_.Go.OpenSpec.ofChange s with cond := some uptoSmall }

/-- 'ossuarylaw06.CanonTells', WHERE WHAT IT READS IS OF BULK AT MOST 1048576: true; the input reads as it did. -/
def canonTellsUptoRow : OpenClaim := { program := "ytpjiobflmcmlmaa", sum := "6c63b4869f18b123d9ff65e2b5349fadfff002574452c7e9ccec220e2092ea47", func := "ossuary/ossuarylaw06.CanonTells", spec := "canonTells", apart := false, narrowed := true }
def CanonTellsUptoSaid : Prop := canonTellsUptoRow.holds Try.pinned (OpenSpec.upto canonTellsSpec)

/-- 'ossuarylaw06.CanonBack', WHERE WHAT IT READS IS OF BULK AT MOST 1048576: true; the input reads as it did. -/
def canonBackUptoRow : OpenClaim := { program := "ytpjiobflmcmlmaa", sum := "6c63b4869f18b123d9ff65e2b5349fadfff002574452c7e9ccec220e2092ea47", func := "ossuary/ossuarylaw06.CanonBack", spec := "canonBack", apart := false, narrowed := true }
def CanonBackUptoSaid : Prop := canonBackUptoRow.holds Try.pinned (OpenSpec.upto canonBackSpec)

/-- 'ossuarylaw06.CanonFull', WHERE WHAT IT READS IS OF BULK AT MOST 1048576: true; the input reads as it did. -/
def canonFullUptoRow : OpenClaim := { program := "ytpjiobflmcmlmaa", sum := "6c63b4869f18b123d9ff65e2b5349fadfff002574452c7e9ccec220e2092ea47", func := "ossuary/ossuarylaw06.CanonFull", spec := "canonFull", apart := false, narrowed := true }
def CanonFullUptoSaid : Prop := canonFullUptoRow.holds Try.pinned (OpenSpec.upto canonFullSpec)

/-- 'ossuarylaw06.CanonRises', WHERE WHAT IT READS IS OF BULK AT MOST 1048576: true; the input reads as it did. -/
def canonRisesUptoRow : OpenClaim := { program := "ytpjiobflmcmlmaa", sum := "6c63b4869f18b123d9ff65e2b5349fadfff002574452c7e9ccec220e2092ea47", func := "ossuary/ossuarylaw06.CanonRises", spec := "canonRises", apart := false, narrowed := true }
def CanonRisesUptoSaid : Prop := canonRisesUptoRow.holds Try.pinned (OpenSpec.upto canonRisesSpec)

/-- 'ossuarylaw06.CanonRow', WHERE WHAT IT READS IS OF BULK AT MOST 1048576: true; the input reads as it did. -/
def canonRowUptoRow : OpenClaim := { program := "ytpjiobflmcmlmaa", sum := "6c63b4869f18b123d9ff65e2b5349fadfff002574452c7e9ccec220e2092ea47", func := "ossuary/ossuarylaw06.CanonRow", spec := "canonRow", apart := false, narrowed := true }
def CanonRowUptoSaid : Prop := canonRowUptoRow.holds Try.pinned (OpenSpec.upto canonRowSpec)

end Rows
end Go.Proofs.Ytpjiobflmcmlmaa
