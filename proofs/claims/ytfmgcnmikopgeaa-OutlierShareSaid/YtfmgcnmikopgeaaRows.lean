/-
  No cell of these rows narrows 'for every input' (looked for: loops, veiled, ifaces, maps, wideKeys, modest, calm, conditions, laid).
  DERIVED. THE GIVEN ROWS OF THIS SEAT. 4 by the template 'for every input the law returns true; each argument reads behind the call as it read before'; 0 by the template 'total and deterministic' (their statements: YtfmgcnmikopgeaaTotals.lean).
  GIVEN WITH THE SEED: the statements are not yours to turn. If you find one false, say at which input.
  Laid BY PROGRAM, IN A SANDBOX (cutbox-rows.mjs): the forced cells as the released guide's own fill.sh prints them over the translation 4080598084e963c1… (all of the seat's roots in one cut). By AI agents, Wed Nov 11 2026. No macro, syntax, notation, axiom, sorry.
-/
import Derived.Test.YtfmgcnmikopgeaaChecked
import GoSem.Claim
import GoSem.ClaimJoined
import GoSem.ClaimMapViews
import Derived.JoinedTies
import Derived.KernelRfl
namespace Go.Proofs.Ytfmgcnmikopgeaa
/- THE CELL 'sum', in the pinned program and in every row, IS THE sha256 OF THE DUMP (.gsa) THAT YtfmgcnmikopgeaaProg.lean LOADS. Nothing in Lean hashes anything: it is a label: what it is worth is what the hold of that sum in a sandbox is worth. -/
noncomputable def Try.pinned : Pinned := { name := "ytfmgcnmikopgeaa", sum := "4080598084e963c121435022e4b88ec0ebaa59652c71cfc2e3af511d7798df75", checked := Try.checked }
namespace Rows
def none {H : Type} : Left H := { results := [], args := [] }

/-- 'pursebearerlaw14.OutlierWell': WHATEVER THE INPUT: true; the input reads as it did. -/
def outlierWellSpec : ChangeSpec := { name := "outlierWell", fn := fun _ => fun
  | [d1, d2] => { results := [.lit (.bool true)], args := [d1, d2] }
  | _ => none }
def outlierWellRow : OpenClaim := { program := "ytfmgcnmikopgeaa", sum := "4080598084e963c121435022e4b88ec0ebaa59652c71cfc2e3af511d7798df75", func := "pursebearer/pursebearerlaw14.OutlierWell", spec := "outlierWell", unfollowed := true, recurses := true, apart := false }
def OutlierWellSaid : Prop := outlierWellRow.holds Try.pinned (OpenSpec.ofChange outlierWellSpec)

/-- ITS FALSE NEIGHBOUR: 'it returns false'. Refute it at one input. -/
def outlierWellWrong : ChangeSpec := { name := "outlierWell", fn := fun _ => fun
  | [d1, d2] => { results := [.lit (.bool false)], args := [d1, d2] }
  | _ => none }
def OutlierWellWrongFalsely : Prop := outlierWellRow.holds Try.pinned (OpenSpec.ofChange outlierWellWrong)

/-- 'pursebearerlaw14.OutlierRow': WHATEVER THE INPUT: true; the input reads as it did. -/
def outlierRowSpec : ChangeSpec := { name := "outlierRow", fn := fun _ => fun
  | [d1, d2, d3] => { results := [.lit (.bool true)], args := [d1, d2, d3] }
  | _ => none }
def outlierRowRow : OpenClaim := { program := "ytfmgcnmikopgeaa", sum := "4080598084e963c121435022e4b88ec0ebaa59652c71cfc2e3af511d7798df75", func := "pursebearer/pursebearerlaw14.OutlierRow", spec := "outlierRow", unfollowed := true, recurses := true, apart := false }
def OutlierRowSaid : Prop := outlierRowRow.holds Try.pinned (OpenSpec.ofChange outlierRowSpec)

/-- ITS FALSE NEIGHBOUR: 'it returns false'. Refute it at one input. -/
def outlierRowWrong : ChangeSpec := { name := "outlierRow", fn := fun _ => fun
  | [d1, d2, d3] => { results := [.lit (.bool false)], args := [d1, d2, d3] }
  | _ => none }
def OutlierRowWrongFalsely : Prop := outlierRowRow.holds Try.pinned (OpenSpec.ofChange outlierRowWrong)

/-- 'pursebearerlaw14.OutlierShare': WHATEVER THE INPUT: true; the input reads as it did. -/
def outlierShareSpec : ChangeSpec := { name := "outlierShare", fn := fun _ => fun
  | [d1, d2] => { results := [.lit (.bool true)], args := [d1, d2] }
  | _ => none }
def outlierShareRow : OpenClaim := { program := "ytfmgcnmikopgeaa", sum := "4080598084e963c121435022e4b88ec0ebaa59652c71cfc2e3af511d7798df75", func := "pursebearer/pursebearerlaw14.OutlierShare", spec := "outlierShare", unfollowed := true, recurses := true, apart := false }
def OutlierShareSaid : Prop := outlierShareRow.holds Try.pinned (OpenSpec.ofChange outlierShareSpec)

/-- ITS FALSE NEIGHBOUR: 'it returns false'. Refute it at one input. -/
def outlierShareWrong : ChangeSpec := { name := "outlierShare", fn := fun _ => fun
  | [d1, d2] => { results := [.lit (.bool false)], args := [d1, d2] }
  | _ => none }
def OutlierShareWrongFalsely : Prop := outlierShareRow.holds Try.pinned (OpenSpec.ofChange outlierShareWrong)

/-- 'pursebearerlaw14.OutlierChecks': WHATEVER THE INPUT: true; the input reads as it did. -/
def outlierChecksSpec : ChangeSpec := { name := "outlierChecks", fn := fun _ => fun
  | [d1, d2, d3, d4] => { results := [.lit (.bool true)], args := [d1, d2, d3, d4] }
  | _ => none }
def outlierChecksRow : OpenClaim := { program := "ytfmgcnmikopgeaa", sum := "4080598084e963c121435022e4b88ec0ebaa59652c71cfc2e3af511d7798df75", func := "pursebearer/pursebearerlaw14.OutlierChecks", spec := "outlierChecks", unfollowed := true, recurses := true, apart := false }
def OutlierChecksSaid : Prop := outlierChecksRow.holds Try.pinned (OpenSpec.ofChange outlierChecksSpec)

/-- ITS FALSE NEIGHBOUR: 'it returns false'. Refute it at one input. -/
def outlierChecksWrong : ChangeSpec := { name := "outlierChecks", fn := fun _ => fun
  | [d1, d2, d3, d4] => { results := [.lit (.bool false)], args := [d1, d2, d3, d4] }
  | _ => none }
def OutlierChecksWrongFalsely : Prop := outlierChecksRow.holds Try.pinned (OpenSpec.ofChange outlierChecksWrong)

/- THE SECOND FORM. 'bulk': how many values and letters a reading holds, each counted each time it is reached (what is shared counts as often as it is met; a slice's spare places count too). A statement '..UptoSaid' is the law's where the arguments, and the package variables that the reading takes, are together of bulk at most 1048576: NARROWER than '..Said'. Prove '..Said' where nothing that the law and all that it calls make is longer than what came in: it says more and counts as full. Else prove '..UptoSaid'. A law counts once. -/
mutual
def uptoBulk {H : Type} : DataW H → Nat
  | .lit (.string bytes) => bytes.length + 1
  | .lit _ => 1
  | .nil => 1
  | .ptr d => uptoBulk d + 1
  | .slice elems spare => uptoBulkAll elems + uptoBulkAll spare + 1
  | .agg parts => uptoBulkAll parts + 1
  | .iface _ d => uptoBulk d + 1
  | .map entries => uptoBulkEntries entries + 1
  | .held _ => 1
def uptoBulkAll {H : Type} : List (DataW H) → Nat
  | [] => 0
  | d :: r => uptoBulk d + uptoBulkAll r
def uptoBulkEntries {H : Type} : List (Lit × DataW H) → Nat
  | [] => 0
  | x :: r => uptoBulkEntry x + uptoBulkEntries r
def uptoBulkEntry {H : Type} : Lit × DataW H → Nat
  | (.string bytes, d) => bytes.length + uptoBulk d + 1
  | (_, d) => uptoBulk d + 1
 end
def uptoSmall : (H : Type) → List (DataW H) → Bool := fun _ ds => decide (uptoBulkAll ds ≤ 1048576)
def OpenSpec.upto (s : _root_.Go.ChangeSpec) : _root_.Go.OpenSpec := { _root_.Go.OpenSpec.ofChange s with cond := some uptoSmall }

/-- 'pursebearerlaw14.OutlierWell', WHERE WHAT IT READS IS OF BULK AT MOST 1048576: true; the input reads as it did. -/
def outlierWellUptoRow : OpenClaim := { program := "ytfmgcnmikopgeaa", sum := "4080598084e963c121435022e4b88ec0ebaa59652c71cfc2e3af511d7798df75", func := "pursebearer/pursebearerlaw14.OutlierWell", spec := "outlierWell", unfollowed := true, recurses := true, apart := false, narrowed := true }
def OutlierWellUptoSaid : Prop := outlierWellUptoRow.holds Try.pinned (OpenSpec.upto outlierWellSpec)

/-- 'pursebearerlaw14.OutlierRow', WHERE WHAT IT READS IS OF BULK AT MOST 1048576: true; the input reads as it did. -/
def outlierRowUptoRow : OpenClaim := { program := "ytfmgcnmikopgeaa", sum := "4080598084e963c121435022e4b88ec0ebaa59652c71cfc2e3af511d7798df75", func := "pursebearer/pursebearerlaw14.OutlierRow", spec := "outlierRow", unfollowed := true, recurses := true, apart := false, narrowed := true }
def OutlierRowUptoSaid : Prop := outlierRowUptoRow.holds Try.pinned (OpenSpec.upto outlierRowSpec)

/-- 'pursebearerlaw14.OutlierShare', WHERE WHAT IT READS IS OF BULK AT MOST 1048576: true; the input reads as it did. -/
def outlierShareUptoRow : OpenClaim := { program := "ytfmgcnmikopgeaa", sum := "4080598084e963c121435022e4b88ec0ebaa59652c71cfc2e3af511d7798df75", func := "pursebearer/pursebearerlaw14.OutlierShare", spec := "outlierShare", unfollowed := true, recurses := true, apart := false, narrowed := true }
def OutlierShareUptoSaid : Prop := outlierShareUptoRow.holds Try.pinned (OpenSpec.upto outlierShareSpec)

/-- 'pursebearerlaw14.OutlierChecks', WHERE WHAT IT READS IS OF BULK AT MOST 1048576: true; the input reads as it did. -/
def outlierChecksUptoRow : OpenClaim := { program := "ytfmgcnmikopgeaa", sum := "4080598084e963c121435022e4b88ec0ebaa59652c71cfc2e3af511d7798df75", func := "pursebearer/pursebearerlaw14.OutlierChecks", spec := "outlierChecks", unfollowed := true, recurses := true, apart := false, narrowed := true }
def OutlierChecksUptoSaid : Prop := outlierChecksUptoRow.holds Try.pinned (OpenSpec.upto outlierChecksSpec)

end Rows
end Go.Proofs.Ytfmgcnmikopgeaa
