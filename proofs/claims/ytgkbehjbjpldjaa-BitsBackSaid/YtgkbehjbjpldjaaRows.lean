/-
  No cell of these rows narrows 'for every input' (looked for: loops, veiled, ifaces, maps, wideKeys, modest, calm, conditions, laid).
  DERIVED. THE GIVEN ROWS OF THIS SEAT. 4 by the template 'for every input the law returns true; each argument reads behind the call as it read before'; 0 by the template 'total and deterministic' (their statements: YtgkbehjbjpldjaaTotals.lean).
  GIVEN WITH THE SEED: the statements are not yours to turn. If you find one false, say at which input.
  Laid BY PROGRAM, IN A SANDBOX (cutbox-rows.mjs): the forced cells as the released guide's own fill.sh prints them over the translation b75d34962ec8dd76… (all of the seat's roots in one cut). By AI agents, Wed Nov 11 2026. No macro, syntax, notation, axiom, sorry.
-/
import Derived.Test.YtgkbehjbjpldjaaChecked
import GoSem.Claim
import GoSem.ClaimJoined
import GoSem.ClaimMapViews
import Derived.JoinedTies
import Derived.KernelRfl
namespace Go.Proofs.Ytgkbehjbjpldjaa
/- THE CELL 'sum', in the pinned program and in every row, IS THE sha256 OF THE DUMP (.gsa) THAT YtgkbehjbjpldjaaProg.lean LOADS. Nothing in Lean hashes anything: it is a label: what it is worth is what the hold of that sum in a sandbox is worth. -/
noncomputable def Try.pinned : Pinned := { name := "ytgkbehjbjpldjaa", sum := "b75d34962ec8dd76cf4ae1e45478ecf34520b80fd732ef299168c62549d68596", checked := Try.checked }
namespace Rows
def none {H : Type} : Left H := { results := [], args := [] }

/-- 'ossuarylaw03.BitsBack': WHATEVER THE INPUT: true; the input reads as it did. -/
def bitsBackSpec : ChangeSpec := { name := "bitsBack", fn := fun _ => fun
  | [d1, d2, d3] => { results := [.lit (.bool true)], args := [d1, d2, d3] }
  | _ => none }
def bitsBackRow : OpenClaim := { program := "ytgkbehjbjpldjaa", sum := "b75d34962ec8dd76cf4ae1e45478ecf34520b80fd732ef299168c62549d68596", func := "ossuary/ossuarylaw03.BitsBack", spec := "bitsBack", apart := false }
def BitsBackSaid : Prop := bitsBackRow.holds Try.pinned (OpenSpec.ofChange bitsBackSpec)

/-- ITS FALSE NEIGHBOUR: 'it returns false'. Refute it at one input. -/
def bitsBackWrong : ChangeSpec := { name := "bitsBack", fn := fun _ => fun
  | [d1, d2, d3] => { results := [.lit (.bool false)], args := [d1, d2, d3] }
  | _ => none }
def BitsBackWrongFalsely : Prop := bitsBackRow.holds Try.pinned (OpenSpec.ofChange bitsBackWrong)

/-- 'ossuarylaw03.BitsParts': WHATEVER THE INPUT: true; the input reads as it did. -/
def bitsPartsSpec : ChangeSpec := { name := "bitsParts", fn := fun _ => fun
  | [d1, d2] => { results := [.lit (.bool true)], args := [d1, d2] }
  | _ => none }
def bitsPartsRow : OpenClaim := { program := "ytgkbehjbjpldjaa", sum := "b75d34962ec8dd76cf4ae1e45478ecf34520b80fd732ef299168c62549d68596", func := "ossuary/ossuarylaw03.BitsParts", spec := "bitsParts", apart := false }
def BitsPartsSaid : Prop := bitsPartsRow.holds Try.pinned (OpenSpec.ofChange bitsPartsSpec)

/-- ITS FALSE NEIGHBOUR: 'it returns false'. Refute it at one input. -/
def bitsPartsWrong : ChangeSpec := { name := "bitsParts", fn := fun _ => fun
  | [d1, d2] => { results := [.lit (.bool false)], args := [d1, d2] }
  | _ => none }
def BitsPartsWrongFalsely : Prop := bitsPartsRow.holds Try.pinned (OpenSpec.ofChange bitsPartsWrong)

/-- 'ossuarylaw03.BitsLong': WHATEVER THE INPUT: true; the input reads as it did. -/
def bitsLongSpec : ChangeSpec := { name := "bitsLong", fn := fun _ => fun
  | [d1, d2] => { results := [.lit (.bool true)], args := [d1, d2] }
  | _ => none }
def bitsLongRow : OpenClaim := { program := "ytgkbehjbjpldjaa", sum := "b75d34962ec8dd76cf4ae1e45478ecf34520b80fd732ef299168c62549d68596", func := "ossuary/ossuarylaw03.BitsLong", spec := "bitsLong", apart := false }
def BitsLongSaid : Prop := bitsLongRow.holds Try.pinned (OpenSpec.ofChange bitsLongSpec)

/-- ITS FALSE NEIGHBOUR: 'it returns false'. Refute it at one input. -/
def bitsLongWrong : ChangeSpec := { name := "bitsLong", fn := fun _ => fun
  | [d1, d2] => { results := [.lit (.bool false)], args := [d1, d2] }
  | _ => none }
def BitsLongWrongFalsely : Prop := bitsLongRow.holds Try.pinned (OpenSpec.ofChange bitsLongWrong)

/-- 'ossuarylaw03.BitsMany': WHATEVER THE INPUT: true; the input reads as it did. -/
def bitsManySpec : ChangeSpec := { name := "bitsMany", fn := fun _ => fun
  | [d] => { results := [.lit (.bool true)], args := [d] }
  | _ => none }
def bitsManyRow : OpenClaim := { program := "ytgkbehjbjpldjaa", sum := "b75d34962ec8dd76cf4ae1e45478ecf34520b80fd732ef299168c62549d68596", func := "ossuary/ossuarylaw03.BitsMany", spec := "bitsMany", apart := false }
def BitsManySaid : Prop := bitsManyRow.holds Try.pinned (OpenSpec.ofChange bitsManySpec)

/-- ITS FALSE NEIGHBOUR: 'it returns false'. Refute it at one input. -/
def bitsManyWrong : ChangeSpec := { name := "bitsMany", fn := fun _ => fun
  | [d] => { results := [.lit (.bool false)], args := [d] }
  | _ => none }
def BitsManyWrongFalsely : Prop := bitsManyRow.holds Try.pinned (OpenSpec.ofChange bitsManyWrong)

/- THE SECOND FORM. 'bulk': how many values and letters a reading holds, each counted each time it is reached (what is shared counts as often as it is met; a slice's spare places count too). A statement '..UptoSaid' is the law's where the arguments, and the package variables that the reading takes, are together of bulk at most 1048576: NARROWER than '..Said'. Prove '..Said' where nothing that the law and all that it calls make is longer than what came in: it says more and counts as full. Else prove '..UptoSaid'. A law counts once. -/
mutual
def uptoBulk {H : Type} : DataW H → Nat
  | .lit (.string bytes) => bytes.length + 1
  | .lit _ => 1
  | .nil => 1
  | .ptr d => uptoBulk d + 1
  | .slice elems spare => uptoBulkAll elems + uptoBulkAll spare + 1
  | .agg parts => uptoBulkAll parts + 1
  | .iface _ d => uptoBulk d + 1
  | .map entries => uptoBulkEntries entries + 1
  | .held _ => 1
def uptoBulkAll {H : Type} : List (DataW H) → Nat
  | [] => 0
  | d :: r => uptoBulk d + uptoBulkAll r
def uptoBulkEntries {H : Type} : List (Lit × DataW H) → Nat
  | [] => 0
  | x :: r => uptoBulkEntry x + uptoBulkEntries r
def uptoBulkEntry {H : Type} : Lit × DataW H → Nat
  | (.string bytes, d) => bytes.length + uptoBulk d + 1
  | (_, d) => uptoBulk d + 1
 end
def uptoSmall : (H : Type) → List (DataW H) → Bool := fun _ ds => decide (uptoBulkAll ds ≤ 1048576)
def OpenSpec.upto (s : _root_.Go.ChangeSpec) : _root_.Go.OpenSpec := { _root_.Go.OpenSpec.ofChange s with cond := some uptoSmall }

/-- 'ossuarylaw03.BitsBack', WHERE WHAT IT READS IS OF BULK AT MOST 1048576: true; the input reads as it did. -/
def bitsBackUptoRow : OpenClaim := { program := "ytgkbehjbjpldjaa", sum := "b75d34962ec8dd76cf4ae1e45478ecf34520b80fd732ef299168c62549d68596", func := "ossuary/ossuarylaw03.BitsBack", spec := "bitsBack", apart := false, narrowed := true }
def BitsBackUptoSaid : Prop := bitsBackUptoRow.holds Try.pinned (OpenSpec.upto bitsBackSpec)

/-- 'ossuarylaw03.BitsParts', WHERE WHAT IT READS IS OF BULK AT MOST 1048576: true; the input reads as it did. -/
def bitsPartsUptoRow : OpenClaim := { program := "ytgkbehjbjpldjaa", sum := "b75d34962ec8dd76cf4ae1e45478ecf34520b80fd732ef299168c62549d68596", func := "ossuary/ossuarylaw03.BitsParts", spec := "bitsParts", apart := false, narrowed := true }
def BitsPartsUptoSaid : Prop := bitsPartsUptoRow.holds Try.pinned (OpenSpec.upto bitsPartsSpec)

/-- 'ossuarylaw03.BitsLong', WHERE WHAT IT READS IS OF BULK AT MOST 1048576: true; the input reads as it did. -/
def bitsLongUptoRow : OpenClaim := { program := "ytgkbehjbjpldjaa", sum := "b75d34962ec8dd76cf4ae1e45478ecf34520b80fd732ef299168c62549d68596", func := "ossuary/ossuarylaw03.BitsLong", spec := "bitsLong", apart := false, narrowed := true }
def BitsLongUptoSaid : Prop := bitsLongUptoRow.holds Try.pinned (OpenSpec.upto bitsLongSpec)

/-- 'ossuarylaw03.BitsMany', WHERE WHAT IT READS IS OF BULK AT MOST 1048576: true; the input reads as it did. -/
def bitsManyUptoRow : OpenClaim := { program := "ytgkbehjbjpldjaa", sum := "b75d34962ec8dd76cf4ae1e45478ecf34520b80fd732ef299168c62549d68596", func := "ossuary/ossuarylaw03.BitsMany", spec := "bitsMany", apart := false, narrowed := true }
def BitsManyUptoSaid : Prop := bitsManyUptoRow.holds Try.pinned (OpenSpec.upto bitsManySpec)

end Rows
end Go.Proofs.Ytgkbehjbjpldjaa
