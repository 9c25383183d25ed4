/-
  No cell of these rows narrows 'for every input' (looked for: loops, veiled, ifaces, maps, wideKeys, modest, calm, conditions, laid).
  DERIVED. THE GIVEN ROWS OF THIS SEAT. 6 by the template 'for every input the law returns true; each argument reads behind the call as it read before'; 0 by the template 'total and deterministic' (their statements: YthblblkifkndiaaTotals.lean).
  GIVEN WITH THE SEED: the statements are not yours to turn. If you find one false, say at which input.
  Laid BY PROGRAM, IN A SANDBOX (cutbox-rows.mjs): the forced cells as the released guide's own fill.sh prints them over the translation 38688a8809347b9c… (all of the seat's roots in one cut). By AI agents, Wed Nov 11 2026. No macro, syntax, notation, axiom, sorry.
-/
import Derived.Test.YthblblkifkndiaaChecked
import GoSem.Claim
import GoSem.ClaimJoined
import GoSem.ClaimMapViews
import Derived.JoinedTies
import Derived.KernelRfl
namespace Go.Proofs.Ythblblkifkndiaa
/- THE CELL 'sum', in the pinned program and in every row, IS THE sha256 OF THE DUMP (.gsa) THAT YthblblkifkndiaaProg.lean LOADS. Nothing in Lean hashes anything: it is a label: what it is worth is what the hold of that sum in a sandbox is worth. -/
noncomputable def Try.pinned : Pinned := { name := "ythblblkifkndiaa", sum := "38688a8809347b9c8f8abc5b7f562fc42cf8a650d09375ee323267b2cf897bbf", checked := Try.checked }
namespace Rows
def none {H : Type} : Left H := { results := [], args := [] }

/-- 'pursebearerlaw11.ZonesTells': WHATEVER THE INPUT: true; the input reads as it did. -/
def zonesTellsSpec : ChangeSpec := { name := "zonesTells", fn := fun _ => fun
  | [d1, d2, d3, d4, d5] => { results := [.lit (.bool true)], args := [d1, d2, d3, d4, d5] }
  | _ => none }
def zonesTellsRow : OpenClaim := { program := "ythblblkifkndiaa", sum := "38688a8809347b9c8f8abc5b7f562fc42cf8a650d09375ee323267b2cf897bbf", func := "pursebearer/pursebearerlaw11.ZonesTells", spec := "zonesTells", unfollowed := true, recurses := true, apart := false }
def ZonesTellsSaid : Prop := zonesTellsRow.holds Try.pinned (OpenSpec.ofChange zonesTellsSpec)

/-- ITS FALSE NEIGHBOUR: 'it returns false'. Refute it at one input. -/
def zonesTellsWrong : ChangeSpec := { name := "zonesTells", fn := fun _ => fun
  | [d1, d2, d3, d4, d5] => { results := [.lit (.bool false)], args := [d1, d2, d3, d4, d5] }
  | _ => none }
def ZonesTellsWrongFalsely : Prop := zonesTellsRow.holds Try.pinned (OpenSpec.ofChange zonesTellsWrong)

/-- 'pursebearerlaw11.ZonesSome': WHATEVER THE INPUT: true; the input reads as it did. -/
def zonesSomeSpec : ChangeSpec := { name := "zonesSome", fn := fun _ => fun
  | [d1, d2, d3, d4, d5] => { results := [.lit (.bool true)], args := [d1, d2, d3, d4, d5] }
  | _ => none }
def zonesSomeRow : OpenClaim := { program := "ythblblkifkndiaa", sum := "38688a8809347b9c8f8abc5b7f562fc42cf8a650d09375ee323267b2cf897bbf", func := "pursebearer/pursebearerlaw11.ZonesSome", spec := "zonesSome", unfollowed := true, recurses := true, apart := false }
def ZonesSomeSaid : Prop := zonesSomeRow.holds Try.pinned (OpenSpec.ofChange zonesSomeSpec)

/-- ITS FALSE NEIGHBOUR: 'it returns false'. Refute it at one input. -/
def zonesSomeWrong : ChangeSpec := { name := "zonesSome", fn := fun _ => fun
  | [d1, d2, d3, d4, d5] => { results := [.lit (.bool false)], args := [d1, d2, d3, d4, d5] }
  | _ => none }
def ZonesSomeWrongFalsely : Prop := zonesSomeRow.holds Try.pinned (OpenSpec.ofChange zonesSomeWrong)

/-- 'pursebearerlaw11.ZonesShare': WHATEVER THE INPUT: true; the input reads as it did. -/
def zonesShareSpec : ChangeSpec := { name := "zonesShare", fn := fun _ => fun
  | [d1, d2, d3] => { results := [.lit (.bool true)], args := [d1, d2, d3] }
  | _ => none }
def zonesShareRow : OpenClaim := { program := "ythblblkifkndiaa", sum := "38688a8809347b9c8f8abc5b7f562fc42cf8a650d09375ee323267b2cf897bbf", func := "pursebearer/pursebearerlaw11.ZonesShare", spec := "zonesShare", unfollowed := true, recurses := true, apart := false }
def ZonesShareSaid : Prop := zonesShareRow.holds Try.pinned (OpenSpec.ofChange zonesShareSpec)

/-- ITS FALSE NEIGHBOUR: 'it returns false'. Refute it at one input. -/
def zonesShareWrong : ChangeSpec := { name := "zonesShare", fn := fun _ => fun
  | [d1, d2, d3] => { results := [.lit (.bool false)], args := [d1, d2, d3] }
  | _ => none }
def ZonesShareWrongFalsely : Prop := zonesShareRow.holds Try.pinned (OpenSpec.ofChange zonesShareWrong)

/-- 'pursebearerlaw11.ZonesMore': WHATEVER THE INPUT: true; the input reads as it did. -/
def zonesMoreSpec : ChangeSpec := { name := "zonesMore", fn := fun _ => fun
  | [d1, d2, d3, d4, d5] => { results := [.lit (.bool true)], args := [d1, d2, d3, d4, d5] }
  | _ => none }
def zonesMoreRow : OpenClaim := { program := "ythblblkifkndiaa", sum := "38688a8809347b9c8f8abc5b7f562fc42cf8a650d09375ee323267b2cf897bbf", func := "pursebearer/pursebearerlaw11.ZonesMore", spec := "zonesMore", unfollowed := true, recurses := true, apart := false }
def ZonesMoreSaid : Prop := zonesMoreRow.holds Try.pinned (OpenSpec.ofChange zonesMoreSpec)

/-- ITS FALSE NEIGHBOUR: 'it returns false'. Refute it at one input. -/
def zonesMoreWrong : ChangeSpec := { name := "zonesMore", fn := fun _ => fun
  | [d1, d2, d3, d4, d5] => { results := [.lit (.bool false)], args := [d1, d2, d3, d4, d5] }
  | _ => none }
def ZonesMoreWrongFalsely : Prop := zonesMoreRow.holds Try.pinned (OpenSpec.ofChange zonesMoreWrong)

/-- 'pursebearerlaw11.ZonesRow': WHATEVER THE INPUT: true; the input reads as it did. -/
def zonesRowSpec : ChangeSpec := { name := "zonesRow", fn := fun _ => fun
  | [d1, d2, d3, d4, d5] => { results := [.lit (.bool true)], args := [d1, d2, d3, d4, d5] }
  | _ => none }
def zonesRowRow : OpenClaim := { program := "ythblblkifkndiaa", sum := "38688a8809347b9c8f8abc5b7f562fc42cf8a650d09375ee323267b2cf897bbf", func := "pursebearer/pursebearerlaw11.ZonesRow", spec := "zonesRow", unfollowed := true, recurses := true, apart := false }
def ZonesRowSaid : Prop := zonesRowRow.holds Try.pinned (OpenSpec.ofChange zonesRowSpec)

/-- ITS FALSE NEIGHBOUR: 'it returns false'. Refute it at one input. -/
def zonesRowWrong : ChangeSpec := { name := "zonesRow", fn := fun _ => fun
  | [d1, d2, d3, d4, d5] => { results := [.lit (.bool false)], args := [d1, d2, d3, d4, d5] }
  | _ => none }
def ZonesRowWrongFalsely : Prop := zonesRowRow.holds Try.pinned (OpenSpec.ofChange zonesRowWrong)

/-- 'pursebearerlaw11.ZonesSpill': WHATEVER THE INPUT: true; the input reads as it did. -/
def zonesSpillSpec : ChangeSpec := { name := "zonesSpill", fn := fun _ => fun
  | [d1, d2, d3] => { results := [.lit (.bool true)], args := [d1, d2, d3] }
  | _ => none }
def zonesSpillRow : OpenClaim := { program := "ythblblkifkndiaa", sum := "38688a8809347b9c8f8abc5b7f562fc42cf8a650d09375ee323267b2cf897bbf", func := "pursebearer/pursebearerlaw11.ZonesSpill", spec := "zonesSpill", unfollowed := true, recurses := true, apart := false }
def ZonesSpillSaid : Prop := zonesSpillRow.holds Try.pinned (OpenSpec.ofChange zonesSpillSpec)

/-- ITS FALSE NEIGHBOUR: 'it returns false'. Refute it at one input. -/
def zonesSpillWrong : ChangeSpec := { name := "zonesSpill", fn := fun _ => fun
  | [d1, d2, d3] => { results := [.lit (.bool false)], args := [d1, d2, d3] }
  | _ => none }
def ZonesSpillWrongFalsely : Prop := zonesSpillRow.holds Try.pinned (OpenSpec.ofChange zonesSpillWrong)

/- THE SECOND FORM. 'bulk': how many values and letters a reading holds, each counted each time it is reached (what is shared counts as often as it is met; a slice's spare places count too). A statement '..UptoSaid' is the law's where the arguments, and the package variables that the reading takes, are together of bulk at most 1048576: NARROWER than '..Said'. Prove '..Said' where nothing that the law and all that it calls make is longer than what came in: it says more and counts as full. Else prove '..UptoSaid'. A law counts once. -/
mutual
def uptoBulk {H : Type} : DataW H → Nat
  | .lit (.string bytes) => bytes.length + 1
  | .lit _ => 1
  | .nil => 1
  | .ptr d => uptoBulk d + 1
  | .slice elems spare => uptoBulkAll elems + uptoBulkAll spare + 1
  | .agg parts => uptoBulkAll parts + 1
  | .iface _ d => uptoBulk d + 1
  | .map entries => uptoBulkEntries entries + 1
  | .held _ => 1
def uptoBulkAll {H : Type} : List (DataW H) → Nat
  | [] => 0
  | d :: r => uptoBulk d + uptoBulkAll r
def uptoBulkEntries {H : Type} : List (Lit × DataW H) → Nat
  | [] => 0
  | x :: r => uptoBulkEntry x + uptoBulkEntries r
def uptoBulkEntry {H : Type} : Lit × DataW H → Nat
  | (.string bytes, d) => bytes.length + uptoBulk d + 1
  | (_, d) => uptoBulk d + 1
 end
def uptoSmall : (H : Type) → List (DataW H) → Bool := fun _ ds => decide (uptoBulkAll ds ≤ 1048576)
def OpenSpec.upto (s : _root_.Go.ChangeSpec) : _root_.Go.OpenSpec := { _root_.Go.OpenSpec.ofChange s with cond := some uptoSmall }

/-- 'pursebearerlaw11.ZonesTells', WHERE WHAT IT READS IS OF BULK AT MOST 1048576: true; the input reads as it did. -/
def zonesTellsUptoRow : OpenClaim := { program := "ythblblkifkndiaa", sum := "38688a8809347b9c8f8abc5b7f562fc42cf8a650d09375ee323267b2cf897bbf", func := "pursebearer/pursebearerlaw11.ZonesTells", spec := "zonesTells", unfollowed := true, recurses := true, apart := false, narrowed := true }
def ZonesTellsUptoSaid : Prop := zonesTellsUptoRow.holds Try.pinned (OpenSpec.upto zonesTellsSpec)

/-- 'pursebearerlaw11.ZonesSome', WHERE WHAT IT READS IS OF BULK AT MOST 1048576: true; the input reads as it did. -/
def zonesSomeUptoRow : OpenClaim := { program := "ythblblkifkndiaa", sum := "38688a8809347b9c8f8abc5b7f562fc42cf8a650d09375ee323267b2cf897bbf", func := "pursebearer/pursebearerlaw11.ZonesSome", spec := "zonesSome", unfollowed := true, recurses := true, apart := false, narrowed := true }
def ZonesSomeUptoSaid : Prop := zonesSomeUptoRow.holds Try.pinned (OpenSpec.upto zonesSomeSpec)

/-- 'pursebearerlaw11.ZonesShare', WHERE WHAT IT READS IS OF BULK AT MOST 1048576: true; the input reads as it did. -/
def zonesShareUptoRow : OpenClaim := { program := "ythblblkifkndiaa", sum := "38688a8809347b9c8f8abc5b7f562fc42cf8a650d09375ee323267b2cf897bbf", func := "pursebearer/pursebearerlaw11.ZonesShare", spec := "zonesShare", unfollowed := true, recurses := true, apart := false, narrowed := true }
def ZonesShareUptoSaid : Prop := zonesShareUptoRow.holds Try.pinned (OpenSpec.upto zonesShareSpec)

/-- 'pursebearerlaw11.ZonesMore', WHERE WHAT IT READS IS OF BULK AT MOST 1048576: true; the input reads as it did. -/
def zonesMoreUptoRow : OpenClaim := { program := "ythblblkifkndiaa", sum := "38688a8809347b9c8f8abc5b7f562fc42cf8a650d09375ee323267b2cf897bbf", func := "pursebearer/pursebearerlaw11.ZonesMore", spec := "zonesMore", unfollowed := true, recurses := true, apart := false, narrowed := true }
def ZonesMoreUptoSaid : Prop := zonesMoreUptoRow.holds Try.pinned (OpenSpec.upto zonesMoreSpec)

/-- 'pursebearerlaw11.ZonesRow', WHERE WHAT IT READS IS OF BULK AT MOST 1048576: true; the input reads as it did. -/
def zonesRowUptoRow : OpenClaim := { program := "ythblblkifkndiaa", sum := "38688a8809347b9c8f8abc5b7f562fc42cf8a650d09375ee323267b2cf897bbf", func := "pursebearer/pursebearerlaw11.ZonesRow", spec := "zonesRow", unfollowed := true, recurses := true, apart := false, narrowed := true }
def ZonesRowUptoSaid : Prop := zonesRowUptoRow.holds Try.pinned (OpenSpec.upto zonesRowSpec)

/-- 'pursebearerlaw11.ZonesSpill', WHERE WHAT IT READS IS OF BULK AT MOST 1048576: true; the input reads as it did. -/
def zonesSpillUptoRow : OpenClaim := { program := "ythblblkifkndiaa", sum := "38688a8809347b9c8f8abc5b7f562fc42cf8a650d09375ee323267b2cf897bbf", func := "pursebearer/pursebearerlaw11.ZonesSpill", spec := "zonesSpill", unfollowed := true, recurses := true, apart := false, narrowed := true }
def ZonesSpillUptoSaid : Prop := zonesSpillUptoRow.holds Try.pinned (OpenSpec.upto zonesSpillSpec)

end Rows
end Go.Proofs.Ythblblkifkndiaa
