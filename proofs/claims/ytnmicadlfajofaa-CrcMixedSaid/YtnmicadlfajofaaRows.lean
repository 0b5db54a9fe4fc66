/-
  No cell of these rows narrows 'for every input' (looked for: loops, veiled, ifaces, maps, wideKeys, modest, calm, conditions, laid).
  DERIVED. THE GIVEN ROWS OF THIS SEAT. 3 by the template 'for every input the law returns true; each argument reads behind the call as it read before'; 0 by the template 'total and deterministic' (their statements: YtnmicadlfajofaaTotals.lean).
  GIVEN WITH THE SEED: the statements are not yours to turn. If you find one false, say at which input.
  Laid BY PROGRAM, IN A SANDBOX (cutbox-rows.mjs): the forced cells as the released guide's own fill.sh prints them over the translation 77d9f9b8d59b16cf… (all of the seat's roots in one cut). By AI agents, Wed Nov 11 2026. No macro, syntax, notation, axiom, sorry.
-/
import Derived.Test.YtnmicadlfajofaaChecked
import GoSem.Claim
import GoSem.ClaimJoined
import GoSem.ClaimMapViews
import Derived.JoinedTies
import Derived.KernelRfl
namespace Go.Proofs.Ytnmicadlfajofaa
/- THE CELL 'sum', in the pinned program and in every row, IS THE sha256 OF THE DUMP (.gsa) THAT YtnmicadlfajofaaProg.lean LOADS. Nothing in Lean hashes anything: it is a label: what it is worth is what the hold of that sum in a sandbox is worth. -/
noncomputable def Try.pinned : Pinned := { name := "ytnmicadlfajofaa", sum := "77d9f9b8d59b16cf902795c55259e2594828eda8935ff5b14e872fa3a13bb1ae", checked := Try.checked }
namespace Rows
def none {H : Type} : Left H := { results := [], args := [] }

/-- 'ossuarylaw02.CrcSums': WHATEVER THE INPUT: true; the input reads as it did. -/
def crcSumsSpec : ChangeSpec := { name := "crcSums", fn := fun _ => fun
  | [d1, d2, d3] => { results := [.lit (.bool true)], args := [d1, d2, d3] }
  | _ => none }
def crcSumsRow : OpenClaim := { program := "ytnmicadlfajofaa", sum := "77d9f9b8d59b16cf902795c55259e2594828eda8935ff5b14e872fa3a13bb1ae", func := "ossuary/ossuarylaw02.CrcSums", spec := "crcSums", apart := false }
def CrcSumsSaid : Prop := crcSumsRow.holds Try.pinned (OpenSpec.ofChange crcSumsSpec)

/-- ITS FALSE NEIGHBOUR: 'it returns false'. Refute it at one input. -/
def crcSumsWrong : ChangeSpec := { name := "crcSums", fn := fun _ => fun
  | [d1, d2, d3] => { results := [.lit (.bool false)], args := [d1, d2, d3] }
  | _ => none }
def CrcSumsWrongFalsely : Prop := crcSumsRow.holds Try.pinned (OpenSpec.ofChange crcSumsWrong)

/-- 'ossuarylaw02.CrcMixed': WHATEVER THE INPUT: true; the input reads as it did. -/
def crcMixedSpec : ChangeSpec := { name := "crcMixed", fn := fun _ => fun
  | [d1, d2, d3] => { results := [.lit (.bool true)], args := [d1, d2, d3] }
  | _ => none }
def crcMixedRow : OpenClaim := { program := "ytnmicadlfajofaa", sum := "77d9f9b8d59b16cf902795c55259e2594828eda8935ff5b14e872fa3a13bb1ae", func := "ossuary/ossuarylaw02.CrcMixed", spec := "crcMixed", apart := false }
def CrcMixedSaid : Prop := crcMixedRow.holds Try.pinned (OpenSpec.ofChange crcMixedSpec)

/-- ITS FALSE NEIGHBOUR: 'it returns false'. Refute it at one input. -/
def crcMixedWrong : ChangeSpec := { name := "crcMixed", fn := fun _ => fun
  | [d1, d2, d3] => { results := [.lit (.bool false)], args := [d1, d2, d3] }
  | _ => none }
def CrcMixedWrongFalsely : Prop := crcMixedRow.holds Try.pinned (OpenSpec.ofChange crcMixedWrong)

/-- 'ossuarylaw02.CrcLonger': WHATEVER THE INPUT: true; the input reads as it did. -/
def crcLongerSpec : ChangeSpec := { name := "crcLonger", fn := fun _ => fun
  | [d1, d2] => { results := [.lit (.bool true)], args := [d1, d2] }
  | _ => none }
def crcLongerRow : OpenClaim := { program := "ytnmicadlfajofaa", sum := "77d9f9b8d59b16cf902795c55259e2594828eda8935ff5b14e872fa3a13bb1ae", func := "ossuary/ossuarylaw02.CrcLonger", spec := "crcLonger", apart := false }
def CrcLongerSaid : Prop := crcLongerRow.holds Try.pinned (OpenSpec.ofChange crcLongerSpec)

/-- ITS FALSE NEIGHBOUR: 'it returns false'. Refute it at one input. -/
def crcLongerWrong : ChangeSpec := { name := "crcLonger", fn := fun _ => fun
  | [d1, d2] => { results := [.lit (.bool false)], args := [d1, d2] }
  | _ => none }
def CrcLongerWrongFalsely : Prop := crcLongerRow.holds Try.pinned (OpenSpec.ofChange crcLongerWrong)

/- THE SECOND FORM. 'bulk': how many values and letters a reading holds, each counted each time it is reached (what is shared counts as often as it is met; a slice's spare places count too). A statement '..UptoSaid' is the law's where the arguments, and the package variables that the reading takes, are together of bulk at most 1048576: NARROWER than '..Said'. Prove '..Said' where nothing that the law and all that it calls make is longer than what came in: it says more and counts as full. Else prove '..UptoSaid'. A law counts once. -/
mutual
def uptoBulk {H : Type} : DataW H → Nat
  | .lit (.string bytes) => bytes.length + 1
  | .lit _ => 1
  | .nil => 1
  | .ptr d => uptoBulk d + 1
  | .slice elems spare => uptoBulkAll elems + uptoBulkAll spare + 1
  | .agg parts => uptoBulkAll parts + 1
  | .iface _ d => uptoBulk d + 1
  | .map entries => uptoBulkEntries entries + 1
  | .held _ => 1
def uptoBulkAll {H : Type} : List (DataW H) → Nat
  | [] => 0
  | d :: r => uptoBulk d + uptoBulkAll r
def uptoBulkEntries {H : Type} : List (Lit × DataW H) → Nat
  | [] => 0
  | x :: r => uptoBulkEntry x + uptoBulkEntries r
def uptoBulkEntry {H : Type} : Lit × DataW H → Nat
  | (.string bytes, d) => bytes.length + uptoBulk d + 1
  | (_, d) => uptoBulk d + 1
 end
def uptoSmall : (H : Type) → List (DataW H) → Bool := fun _ ds => decide (uptoBulkAll ds ≤ 1048576)
def OpenSpec.upto (s : _root_.Go.ChangeSpec) : _root_.Go.OpenSpec := { _root_.Go.OpenSpec.ofChange s with cond := some uptoSmall }

/-- 'ossuarylaw02.CrcSums', WHERE WHAT IT READS IS OF BULK AT MOST 1048576: true; the input reads as it did. -/
def crcSumsUptoRow : OpenClaim := { program := "ytnmicadlfajofaa", sum := "77d9f9b8d59b16cf902795c55259e2594828eda8935ff5b14e872fa3a13bb1ae", func := "ossuary/ossuarylaw02.CrcSums", spec := "crcSums", apart := false, narrowed := true }
def CrcSumsUptoSaid : Prop := crcSumsUptoRow.holds Try.pinned (OpenSpec.upto crcSumsSpec)

/-- 'ossuarylaw02.CrcMixed', WHERE WHAT IT READS IS OF BULK AT MOST 1048576: true; the input reads as it did. -/
def crcMixedUptoRow : OpenClaim := { program := "ytnmicadlfajofaa", sum := "77d9f9b8d59b16cf902795c55259e2594828eda8935ff5b14e872fa3a13bb1ae", func := "ossuary/ossuarylaw02.CrcMixed", spec := "crcMixed", apart := false, narrowed := true }
def CrcMixedUptoSaid : Prop := crcMixedUptoRow.holds Try.pinned (OpenSpec.upto crcMixedSpec)

/-- 'ossuarylaw02.CrcLonger', WHERE WHAT IT READS IS OF BULK AT MOST 1048576: true; the input reads as it did. -/
def crcLongerUptoRow : OpenClaim := { program := "ytnmicadlfajofaa", sum := "77d9f9b8d59b16cf902795c55259e2594828eda8935ff5b14e872fa3a13bb1ae", func := "ossuary/ossuarylaw02.CrcLonger", spec := "crcLonger", apart := false, narrowed := true }
def CrcLongerUptoSaid : Prop := crcLongerUptoRow.holds Try.pinned (OpenSpec.upto crcLongerSpec)

end Rows
end Go.Proofs.Ytnmicadlfajofaa
