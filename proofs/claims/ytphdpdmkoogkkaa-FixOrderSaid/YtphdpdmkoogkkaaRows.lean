/-
  No cell of these rows narrows 'for every input' (looked for: loops, veiled, ifaces, maps, wideKeys, modest, calm, conditions, laid).
  DERIVED. THE GIVEN ROWS OF THIS SEAT. 9 by the template 'for every input the law returns true; each argument reads behind the call as it read before'; 0 by the template 'total and deterministic' (their statements: YtphdpdmkoogkkaaTotals.lean).
  GIVEN WITH THE SEED: the statements are not yours to turn. If you find one false, say at which input.
  Laid BY PROGRAM, IN A SANDBOX (cutbox-rows.mjs): the forced cells as the released guide's own fill.sh prints them over the translation 8b7aba87648e2f66… (all of the seat's roots in one cut). By AI agents, Wed Nov 11 2026. No macro, syntax, notation, axiom, sorry.
-/
import Derived.Test.YtphdpdmkoogkkaaChecked
import GoSem.Claim
import GoSem.ClaimJoined
import GoSem.ClaimMapViews
import Derived.JoinedTies
import Derived.KernelRfl
namespace Go.Proofs.Ytphdpdmkoogkkaa
/- THE CELL 'sum', in the pinned program and in every row, IS THE sha256 OF THE DUMP (.gsa) THAT YtphdpdmkoogkkaaProg.lean LOADS. Nothing in Lean hashes anything: it is a label: what it is worth is what the hold of that sum in a sandbox is worth. -/
noncomputable def Try.pinned : Pinned := { name := "ytphdpdmkoogkkaa", sum := "8b7aba87648e2f6661c9c8634e4a75c40b4c6acb4f21b5c2a4c9768a0f4640b0", checked := Try.checked }
namespace Rows
def none {H : Type} : Left H := { results := [], args := [] }

/-- 'pursebearerlaw01.FixShares': WHATEVER THE INPUT: true; the input reads as it did. -/
def fixSharesSpec : ChangeSpec := { name := "fixShares", fn := fun _ => fun
  | [d1, d2, d3, d4] => { results := [.lit (.bool true)], args := [d1, d2, d3, d4] }
  | _ => none }
def fixSharesRow : OpenClaim := { program := "ytphdpdmkoogkkaa", sum := "8b7aba87648e2f6661c9c8634e4a75c40b4c6acb4f21b5c2a4c9768a0f4640b0", func := "pursebearer/pursebearerlaw01.FixShares", spec := "fixShares", named := ["math/bits.divideError", "math/bits.overflowError"], apart := false }
def FixSharesSaid : Prop := fixSharesRow.holds Try.pinned (OpenSpec.ofChange fixSharesSpec)

/-- ITS FALSE NEIGHBOUR: 'it returns false'. Refute it at one input. -/
def fixSharesWrong : ChangeSpec := { name := "fixShares", fn := fun _ => fun
  | [d1, d2, d3, d4] => { results := [.lit (.bool false)], args := [d1, d2, d3, d4] }
  | _ => none }
def FixSharesWrongFalsely : Prop := fixSharesRow.holds Try.pinned (OpenSpec.ofChange fixSharesWrong)

/-- 'pursebearerlaw01.FixFar': WHATEVER THE INPUT: true; the input reads as it did. -/
def fixFarSpec : ChangeSpec := { name := "fixFar", fn := fun _ => fun
  | [d1, d2, d3] => { results := [.lit (.bool true)], args := [d1, d2, d3] }
  | _ => none }
def fixFarRow : OpenClaim := { program := "ytphdpdmkoogkkaa", sum := "8b7aba87648e2f6661c9c8634e4a75c40b4c6acb4f21b5c2a4c9768a0f4640b0", func := "pursebearer/pursebearerlaw01.FixFar", spec := "fixFar", named := ["math/bits.divideError", "math/bits.overflowError"], apart := false }
def FixFarSaid : Prop := fixFarRow.holds Try.pinned (OpenSpec.ofChange fixFarSpec)

/-- ITS FALSE NEIGHBOUR: 'it returns false'. Refute it at one input. -/
def fixFarWrong : ChangeSpec := { name := "fixFar", fn := fun _ => fun
  | [d1, d2, d3] => { results := [.lit (.bool false)], args := [d1, d2, d3] }
  | _ => none }
def FixFarWrongFalsely : Prop := fixFarRow.holds Try.pinned (OpenSpec.ofChange fixFarWrong)

/-- 'pursebearerlaw01.FixChebyshev': WHATEVER THE INPUT: true; the input reads as it did. -/
def fixChebyshevSpec : ChangeSpec := { name := "fixChebyshev", fn := fun _ => fun
  | [d1, d2] => { results := [.lit (.bool true)], args := [d1, d2] }
  | _ => none }
def fixChebyshevRow : OpenClaim := { program := "ytphdpdmkoogkkaa", sum := "8b7aba87648e2f6661c9c8634e4a75c40b4c6acb4f21b5c2a4c9768a0f4640b0", func := "pursebearer/pursebearerlaw01.FixChebyshev", spec := "fixChebyshev", named := ["math/bits.divideError", "math/bits.overflowError"], apart := false }
def FixChebyshevSaid : Prop := fixChebyshevRow.holds Try.pinned (OpenSpec.ofChange fixChebyshevSpec)

/-- ITS FALSE NEIGHBOUR: 'it returns false'. Refute it at one input. -/
def fixChebyshevWrong : ChangeSpec := { name := "fixChebyshev", fn := fun _ => fun
  | [d1, d2] => { results := [.lit (.bool false)], args := [d1, d2] }
  | _ => none }
def FixChebyshevWrongFalsely : Prop := fixChebyshevRow.holds Try.pinned (OpenSpec.ofChange fixChebyshevWrong)

/-- 'pursebearerlaw01.FixRounds': WHATEVER THE INPUT: true; the input reads as it did. -/
def fixRoundsSpec : ChangeSpec := { name := "fixRounds", fn := fun _ => fun
  | [d1, d2] => { results := [.lit (.bool true)], args := [d1, d2] }
  | _ => none }
def fixRoundsRow : OpenClaim := { program := "ytphdpdmkoogkkaa", sum := "8b7aba87648e2f6661c9c8634e4a75c40b4c6acb4f21b5c2a4c9768a0f4640b0", func := "pursebearer/pursebearerlaw01.FixRounds", spec := "fixRounds", named := ["math/bits.divideError", "math/bits.overflowError"], apart := false }
def FixRoundsSaid : Prop := fixRoundsRow.holds Try.pinned (OpenSpec.ofChange fixRoundsSpec)

/-- ITS FALSE NEIGHBOUR: 'it returns false'. Refute it at one input. -/
def fixRoundsWrong : ChangeSpec := { name := "fixRounds", fn := fun _ => fun
  | [d1, d2] => { results := [.lit (.bool false)], args := [d1, d2] }
  | _ => none }
def FixRoundsWrongFalsely : Prop := fixRoundsRow.holds Try.pinned (OpenSpec.ofChange fixRoundsWrong)

/-- 'pursebearerlaw01.FixRoots': WHATEVER THE INPUT: true; the input reads as it did. -/
def fixRootsSpec : ChangeSpec := { name := "fixRoots", fn := fun _ => fun
  | [d1, d2] => { results := [.lit (.bool true)], args := [d1, d2] }
  | _ => none }
def fixRootsRow : OpenClaim := { program := "ytphdpdmkoogkkaa", sum := "8b7aba87648e2f6661c9c8634e4a75c40b4c6acb4f21b5c2a4c9768a0f4640b0", func := "pursebearer/pursebearerlaw01.FixRoots", spec := "fixRoots", named := ["math/bits.divideError", "math/bits.overflowError"], apart := false }
def FixRootsSaid : Prop := fixRootsRow.holds Try.pinned (OpenSpec.ofChange fixRootsSpec)

/-- ITS FALSE NEIGHBOUR: 'it returns false'. Refute it at one input. -/
def fixRootsWrong : ChangeSpec := { name := "fixRoots", fn := fun _ => fun
  | [d1, d2] => { results := [.lit (.bool false)], args := [d1, d2] }
  | _ => none }
def FixRootsWrongFalsely : Prop := fixRootsRow.holds Try.pinned (OpenSpec.ofChange fixRootsWrong)

/-- 'pursebearerlaw01.FixQuotients': WHATEVER THE INPUT: true; the input reads as it did. -/
def fixQuotientsSpec : ChangeSpec := { name := "fixQuotients", fn := fun _ => fun
  | [d1, d2, d3, d4] => { results := [.lit (.bool true)], args := [d1, d2, d3, d4] }
  | _ => none }
def fixQuotientsRow : OpenClaim := { program := "ytphdpdmkoogkkaa", sum := "8b7aba87648e2f6661c9c8634e4a75c40b4c6acb4f21b5c2a4c9768a0f4640b0", func := "pursebearer/pursebearerlaw01.FixQuotients", spec := "fixQuotients", named := ["math/bits.divideError", "math/bits.overflowError"], apart := false }
def FixQuotientsSaid : Prop := fixQuotientsRow.holds Try.pinned (OpenSpec.ofChange fixQuotientsSpec)

/-- ITS FALSE NEIGHBOUR: 'it returns false'. Refute it at one input. -/
def fixQuotientsWrong : ChangeSpec := { name := "fixQuotients", fn := fun _ => fun
  | [d1, d2, d3, d4] => { results := [.lit (.bool false)], args := [d1, d2, d3, d4] }
  | _ => none }
def FixQuotientsWrongFalsely : Prop := fixQuotientsRow.holds Try.pinned (OpenSpec.ofChange fixQuotientsWrong)

/-- 'pursebearerlaw01.FixParts': WHATEVER THE INPUT: true; the input reads as it did. -/
def fixPartsSpec : ChangeSpec := { name := "fixParts", fn := fun _ => fun
  | [d1, d2, d3, d4] => { results := [.lit (.bool true)], args := [d1, d2, d3, d4] }
  | _ => none }
def fixPartsRow : OpenClaim := { program := "ytphdpdmkoogkkaa", sum := "8b7aba87648e2f6661c9c8634e4a75c40b4c6acb4f21b5c2a4c9768a0f4640b0", func := "pursebearer/pursebearerlaw01.FixParts", spec := "fixParts", named := ["math/bits.divideError", "math/bits.overflowError"], apart := false }
def FixPartsSaid : Prop := fixPartsRow.holds Try.pinned (OpenSpec.ofChange fixPartsSpec)

/-- ITS FALSE NEIGHBOUR: 'it returns false'. Refute it at one input. -/
def fixPartsWrong : ChangeSpec := { name := "fixParts", fn := fun _ => fun
  | [d1, d2, d3, d4] => { results := [.lit (.bool false)], args := [d1, d2, d3, d4] }
  | _ => none }
def FixPartsWrongFalsely : Prop := fixPartsRow.holds Try.pinned (OpenSpec.ofChange fixPartsWrong)

/-- 'pursebearerlaw01.FixCompares': WHATEVER THE INPUT: true; the input reads as it did. -/
def fixComparesSpec : ChangeSpec := { name := "fixCompares", fn := fun _ => fun
  | [d1, d2, d3, d4] => { results := [.lit (.bool true)], args := [d1, d2, d3, d4] }
  | _ => none }
def fixComparesRow : OpenClaim := { program := "ytphdpdmkoogkkaa", sum := "8b7aba87648e2f6661c9c8634e4a75c40b4c6acb4f21b5c2a4c9768a0f4640b0", func := "pursebearer/pursebearerlaw01.FixCompares", spec := "fixCompares", recurses := true, named := ["math/bits.divideError", "math/bits.overflowError"], apart := false }
def FixComparesSaid : Prop := fixComparesRow.holds Try.pinned (OpenSpec.ofChange fixComparesSpec)

/-- ITS FALSE NEIGHBOUR: 'it returns false'. Refute it at one input. -/
def fixComparesWrong : ChangeSpec := { name := "fixCompares", fn := fun _ => fun
  | [d1, d2, d3, d4] => { results := [.lit (.bool false)], args := [d1, d2, d3, d4] }
  | _ => none }
def FixComparesWrongFalsely : Prop := fixComparesRow.holds Try.pinned (OpenSpec.ofChange fixComparesWrong)

/-- 'pursebearerlaw01.FixOrder': WHATEVER THE INPUT: true; the input reads as it did. -/
def fixOrderSpec : ChangeSpec := { name := "fixOrder", fn := fun _ => fun
  | [d1, d2] => { results := [.lit (.bool true)], args := [d1, d2] }
  | _ => none }
def fixOrderRow : OpenClaim := { program := "ytphdpdmkoogkkaa", sum := "8b7aba87648e2f6661c9c8634e4a75c40b4c6acb4f21b5c2a4c9768a0f4640b0", func := "pursebearer/pursebearerlaw01.FixOrder", spec := "fixOrder", named := ["math/bits.divideError", "math/bits.overflowError"], apart := false }
def FixOrderSaid : Prop := fixOrderRow.holds Try.pinned (OpenSpec.ofChange fixOrderSpec)

/-- ITS FALSE NEIGHBOUR: 'it returns false'. Refute it at one input. -/
def fixOrderWrong : ChangeSpec := { name := "fixOrder", fn := fun _ => fun
  | [d1, d2] => { results := [.lit (.bool false)], args := [d1, d2] }
  | _ => none }
def FixOrderWrongFalsely : Prop := fixOrderRow.holds Try.pinned (OpenSpec.ofChange fixOrderWrong)

/- THE SECOND FORM. 'bulk': how many values and letters a reading holds, each counted each time it is reached (what is shared counts as often as it is met; a slice's spare places count too). A statement '..UptoSaid' is the law's where the arguments, and the package variables that the reading takes, are together of bulk at most 1048576: NARROWER than '..Said'. Prove '..Said' where nothing that the law and all that it calls make is longer than what came in: it says more and counts as full. Else prove '..UptoSaid'. A law counts once. -/
mutual
def uptoBulk {H : Type} : DataW H → Nat
  | .lit (.string bytes) => bytes.length + 1
  | .lit _ => 1
  | .nil => 1
  | .ptr d => uptoBulk d + 1
  | .slice elems spare => uptoBulkAll elems + uptoBulkAll spare + 1
  | .agg parts => uptoBulkAll parts + 1
  | .iface _ d => uptoBulk d + 1
  | .map entries => uptoBulkEntries entries + 1
  | .held _ => 1
def uptoBulkAll {H : Type} : List (DataW H) → Nat
  | [] => 0
  | d :: r => uptoBulk d + uptoBulkAll r
def uptoBulkEntries {H : Type} : List (Lit × DataW H) → Nat
  | [] => 0
  | x :: r => uptoBulkEntry x + uptoBulkEntries r
def uptoBulkEntry {H : Type} : Lit × DataW H → Nat
  | (.string bytes, d) => bytes.length + uptoBulk d + 1
  | (_, d) => uptoBulk d + 1
 end
def uptoSmall : (H : Type) → List (DataW H) → Bool := fun _ ds => decide (uptoBulkAll ds ≤ 1048576)
def OpenSpec.upto (s : _root_.Go.ChangeSpec) : _root_.Go.OpenSpec := { _root_.Go.OpenSpec.ofChange s with cond := some uptoSmall }

/-- 'pursebearerlaw01.FixShares', WHERE WHAT IT READS IS OF BULK AT MOST 1048576: true; the input reads as it did. -/
def fixSharesUptoRow : OpenClaim := { program := "ytphdpdmkoogkkaa", sum := "8b7aba87648e2f6661c9c8634e4a75c40b4c6acb4f21b5c2a4c9768a0f4640b0", func := "pursebearer/pursebearerlaw01.FixShares", spec := "fixShares", named := ["math/bits.divideError", "math/bits.overflowError"], apart := false, narrowed := true }
def FixSharesUptoSaid : Prop := fixSharesUptoRow.holds Try.pinned (OpenSpec.upto fixSharesSpec)

/-- 'pursebearerlaw01.FixFar', WHERE WHAT IT READS IS OF BULK AT MOST 1048576: true; the input reads as it did. -/
def fixFarUptoRow : OpenClaim := { program := "ytphdpdmkoogkkaa", sum := "8b7aba87648e2f6661c9c8634e4a75c40b4c6acb4f21b5c2a4c9768a0f4640b0", func := "pursebearer/pursebearerlaw01.FixFar", spec := "fixFar", named := ["math/bits.divideError", "math/bits.overflowError"], apart := false, narrowed := true }
def FixFarUptoSaid : Prop := fixFarUptoRow.holds Try.pinned (OpenSpec.upto fixFarSpec)

/-- 'pursebearerlaw01.FixChebyshev', WHERE WHAT IT READS IS OF BULK AT MOST 1048576: true; the input reads as it did. -/
def fixChebyshevUptoRow : OpenClaim := { program := "ytphdpdmkoogkkaa", sum := "8b7aba87648e2f6661c9c8634e4a75c40b4c6acb4f21b5c2a4c9768a0f4640b0", func := "pursebearer/pursebearerlaw01.FixChebyshev", spec := "fixChebyshev", named := ["math/bits.divideError", "math/bits.overflowError"], apart := false, narrowed := true }
def FixChebyshevUptoSaid : Prop := fixChebyshevUptoRow.holds Try.pinned (OpenSpec.upto fixChebyshevSpec)

/-- 'pursebearerlaw01.FixRounds', WHERE WHAT IT READS IS OF BULK AT MOST 1048576: true; the input reads as it did. -/
def fixRoundsUptoRow : OpenClaim := { program := "ytphdpdmkoogkkaa", sum := "8b7aba87648e2f6661c9c8634e4a75c40b4c6acb4f21b5c2a4c9768a0f4640b0", func := "pursebearer/pursebearerlaw01.FixRounds", spec := "fixRounds", named := ["math/bits.divideError", "math/bits.overflowError"], apart := false, narrowed := true }
def FixRoundsUptoSaid : Prop := fixRoundsUptoRow.holds Try.pinned (OpenSpec.upto fixRoundsSpec)

/-- 'pursebearerlaw01.FixRoots', WHERE WHAT IT READS IS OF BULK AT MOST 1048576: true; the input reads as it did. -/
def fixRootsUptoRow : OpenClaim := { program := "ytphdpdmkoogkkaa", sum := "8b7aba87648e2f6661c9c8634e4a75c40b4c6acb4f21b5c2a4c9768a0f4640b0", func := "pursebearer/pursebearerlaw01.FixRoots", spec := "fixRoots", named := ["math/bits.divideError", "math/bits.overflowError"], apart := false, narrowed := true }
def FixRootsUptoSaid : Prop := fixRootsUptoRow.holds Try.pinned (OpenSpec.upto fixRootsSpec)

/-- 'pursebearerlaw01.FixQuotients', WHERE WHAT IT READS IS OF BULK AT MOST 1048576: true; the input reads as it did. -/
def fixQuotientsUptoRow : OpenClaim := { program := "ytphdpdmkoogkkaa", sum := "8b7aba87648e2f6661c9c8634e4a75c40b4c6acb4f21b5c2a4c9768a0f4640b0", func := "pursebearer/pursebearerlaw01.FixQuotients", spec := "fixQuotients", named := ["math/bits.divideError", "math/bits.overflowError"], apart := false, narrowed := true }
def FixQuotientsUptoSaid : Prop := fixQuotientsUptoRow.holds Try.pinned (OpenSpec.upto fixQuotientsSpec)

/-- 'pursebearerlaw01.FixParts', WHERE WHAT IT READS IS OF BULK AT MOST 1048576: true; the input reads as it did. -/
def fixPartsUptoRow : OpenClaim := { program := "ytphdpdmkoogkkaa", sum := "8b7aba87648e2f6661c9c8634e4a75c40b4c6acb4f21b5c2a4c9768a0f4640b0", func := "pursebearer/pursebearerlaw01.FixParts", spec := "fixParts", named := ["math/bits.divideError", "math/bits.overflowError"], apart := false, narrowed := true }
def FixPartsUptoSaid : Prop := fixPartsUptoRow.holds Try.pinned (OpenSpec.upto fixPartsSpec)

/-- 'pursebearerlaw01.FixCompares', WHERE WHAT IT READS IS OF BULK AT MOST 1048576: true; the input reads as it did. -/
def fixComparesUptoRow : OpenClaim := { program := "ytphdpdmkoogkkaa", sum := "8b7aba87648e2f6661c9c8634e4a75c40b4c6acb4f21b5c2a4c9768a0f4640b0", func := "pursebearer/pursebearerlaw01.FixCompares", spec := "fixCompares", recurses := true, named := ["math/bits.divideError", "math/bits.overflowError"], apart := false, narrowed := true }
def FixComparesUptoSaid : Prop := fixComparesUptoRow.holds Try.pinned (OpenSpec.upto fixComparesSpec)

/-- 'pursebearerlaw01.FixOrder', WHERE WHAT IT READS IS OF BULK AT MOST 1048576: true; the input reads as it did. -/
def fixOrderUptoRow : OpenClaim := { program := "ytphdpdmkoogkkaa", sum := "8b7aba87648e2f6661c9c8634e4a75c40b4c6acb4f21b5c2a4c9768a0f4640b0", func := "pursebearer/pursebearerlaw01.FixOrder", spec := "fixOrder", named := ["math/bits.divideError", "math/bits.overflowError"], apart := false, narrowed := true }
def FixOrderUptoSaid : Prop := fixOrderUptoRow.holds Try.pinned (OpenSpec.upto fixOrderSpec)

end Rows
end Go.Proofs.Ytphdpdmkoogkkaa
