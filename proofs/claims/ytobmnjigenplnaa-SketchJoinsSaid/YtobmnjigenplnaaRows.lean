/-
  No cell of these rows narrows 'for every input' (looked for: loops, veiled, ifaces, maps, wideKeys, modest, calm, conditions, laid).
  DERIVED. THE GIVEN ROWS OF THIS SEAT. 7 by the template 'for every input the law returns true; each argument reads behind the call as it read before'; 0 by the template 'total and deterministic' (their statements: YtobmnjigenplnaaTotals.lean).
  GIVEN WITH THE SEED: the statements are not yours to turn. If you find one false, say at which input.
  Laid BY PROGRAM, IN A SANDBOX (cutbox-rows.mjs): the forced cells as the released guide's own fill.sh prints them over the translation 0c8d99f6fbe15301… (all of the seat's roots in one cut). By AI agents, Wed Nov 11 2026. No macro, syntax, notation, axiom, sorry.
-/
import Derived.Test.YtobmnjigenplnaaChecked
import GoSem.Claim
import GoSem.ClaimJoined
import GoSem.ClaimMapViews
import Derived.JoinedTies
import Derived.KernelRfl
namespace Go.Proofs.Ytobmnjigenplnaa
/- THE CELL 'sum', in the pinned program and in every row, IS THE sha256 OF THE DUMP (.gsa) THAT YtobmnjigenplnaaProg.lean LOADS. Nothing in Lean hashes anything: it is a label: what it is worth is what the hold of that sum in a sandbox is worth. -/
noncomputable def Try.pinned : Pinned := { name := "ytobmnjigenplnaa", sum := "0c8d99f6fbe15301716c5c03fd1f181d8e85af0c4715f6b1cd66f1cf174fd43c", checked := Try.checked }
namespace Rows
def none {H : Type} : Left H := { results := [], args := [] }

/-- 'pursebearerlaw13.SketchBuckets': WHATEVER THE INPUT: true; the input reads as it did. -/
def sketchBucketsSpec : ChangeSpec := { name := "sketchBuckets", fn := fun _ => fun
  | [d1, d2] => { results := [.lit (.bool true)], args := [d1, d2] }
  | _ => none }
def sketchBucketsRow : OpenClaim := { program := "ytobmnjigenplnaa", sum := "0c8d99f6fbe15301716c5c03fd1f181d8e85af0c4715f6b1cd66f1cf174fd43c", func := "pursebearer/pursebearerlaw13.SketchBuckets", spec := "sketchBuckets", unfollowed := true, recurses := true, apart := false }
def SketchBucketsSaid : Prop := sketchBucketsRow.holds Try.pinned (OpenSpec.ofChange sketchBucketsSpec)

/-- ITS FALSE NEIGHBOUR: 'it returns false'. Refute it at one input. -/
def sketchBucketsWrong : ChangeSpec := { name := "sketchBuckets", fn := fun _ => fun
  | [d1, d2] => { results := [.lit (.bool false)], args := [d1, d2] }
  | _ => none }
def SketchBucketsWrongFalsely : Prop := sketchBucketsRow.holds Try.pinned (OpenSpec.ofChange sketchBucketsWrong)

/-- 'pursebearerlaw13.SketchRises': WHATEVER THE INPUT: true; the input reads as it did. -/
def sketchRisesSpec : ChangeSpec := { name := "sketchRises", fn := fun _ => fun
  | [d1, d2] => { results := [.lit (.bool true)], args := [d1, d2] }
  | _ => none }
def sketchRisesRow : OpenClaim := { program := "ytobmnjigenplnaa", sum := "0c8d99f6fbe15301716c5c03fd1f181d8e85af0c4715f6b1cd66f1cf174fd43c", func := "pursebearer/pursebearerlaw13.SketchRises", spec := "sketchRises", unfollowed := true, recurses := true, apart := false }
def SketchRisesSaid : Prop := sketchRisesRow.holds Try.pinned (OpenSpec.ofChange sketchRisesSpec)

/-- ITS FALSE NEIGHBOUR: 'it returns false'. Refute it at one input. -/
def sketchRisesWrong : ChangeSpec := { name := "sketchRises", fn := fun _ => fun
  | [d1, d2] => { results := [.lit (.bool false)], args := [d1, d2] }
  | _ => none }
def SketchRisesWrongFalsely : Prop := sketchRisesRow.holds Try.pinned (OpenSpec.ofChange sketchRisesWrong)

/-- 'pursebearerlaw13.SketchTells': WHATEVER THE INPUT: true; the input reads as it did. -/
def sketchTellsSpec : ChangeSpec := { name := "sketchTells", fn := fun _ => fun
  | [d1, d2] => { results := [.lit (.bool true)], args := [d1, d2] }
  | _ => none }
def sketchTellsRow : OpenClaim := { program := "ytobmnjigenplnaa", sum := "0c8d99f6fbe15301716c5c03fd1f181d8e85af0c4715f6b1cd66f1cf174fd43c", func := "pursebearer/pursebearerlaw13.SketchTells", spec := "sketchTells", unfollowed := true, recurses := true, apart := false }
def SketchTellsSaid : Prop := sketchTellsRow.holds Try.pinned (OpenSpec.ofChange sketchTellsSpec)

/-- ITS FALSE NEIGHBOUR: 'it returns false'. Refute it at one input. -/
def sketchTellsWrong : ChangeSpec := { name := "sketchTells", fn := fun _ => fun
  | [d1, d2] => { results := [.lit (.bool false)], args := [d1, d2] }
  | _ => none }
def SketchTellsWrongFalsely : Prop := sketchTellsRow.holds Try.pinned (OpenSpec.ofChange sketchTellsWrong)

/-- 'pursebearerlaw13.SketchNear': WHATEVER THE INPUT: true; the input reads as it did. -/
def sketchNearSpec : ChangeSpec := { name := "sketchNear", fn := fun _ => fun
  | [d1, d2, d3] => { results := [.lit (.bool true)], args := [d1, d2, d3] }
  | _ => none }
def sketchNearRow : OpenClaim := { program := "ytobmnjigenplnaa", sum := "0c8d99f6fbe15301716c5c03fd1f181d8e85af0c4715f6b1cd66f1cf174fd43c", func := "pursebearer/pursebearerlaw13.SketchNear", spec := "sketchNear", unfollowed := true, recurses := true, apart := false }
def SketchNearSaid : Prop := sketchNearRow.holds Try.pinned (OpenSpec.ofChange sketchNearSpec)

/-- ITS FALSE NEIGHBOUR: 'it returns false'. Refute it at one input. -/
def sketchNearWrong : ChangeSpec := { name := "sketchNear", fn := fun _ => fun
  | [d1, d2, d3] => { results := [.lit (.bool false)], args := [d1, d2, d3] }
  | _ => none }
def SketchNearWrongFalsely : Prop := sketchNearRow.holds Try.pinned (OpenSpec.ofChange sketchNearWrong)

/-- 'pursebearerlaw13.SketchRow': WHATEVER THE INPUT: true; the input reads as it did. -/
def sketchRowSpec : ChangeSpec := { name := "sketchRow", fn := fun _ => fun
  | [d1, d2] => { results := [.lit (.bool true)], args := [d1, d2] }
  | _ => none }
def sketchRowRow : OpenClaim := { program := "ytobmnjigenplnaa", sum := "0c8d99f6fbe15301716c5c03fd1f181d8e85af0c4715f6b1cd66f1cf174fd43c", func := "pursebearer/pursebearerlaw13.SketchRow", spec := "sketchRow", unfollowed := true, recurses := true, apart := false }
def SketchRowSaid : Prop := sketchRowRow.holds Try.pinned (OpenSpec.ofChange sketchRowSpec)

/-- ITS FALSE NEIGHBOUR: 'it returns false'. Refute it at one input. -/
def sketchRowWrong : ChangeSpec := { name := "sketchRow", fn := fun _ => fun
  | [d1, d2] => { results := [.lit (.bool false)], args := [d1, d2] }
  | _ => none }
def SketchRowWrongFalsely : Prop := sketchRowRow.holds Try.pinned (OpenSpec.ofChange sketchRowWrong)

/-- 'pursebearerlaw13.SketchShare': WHATEVER THE INPUT: true; the input reads as it did. -/
def sketchShareSpec : ChangeSpec := { name := "sketchShare", fn := fun _ => fun
  | [d1, d2] => { results := [.lit (.bool true)], args := [d1, d2] }
  | _ => none }
def sketchShareRow : OpenClaim := { program := "ytobmnjigenplnaa", sum := "0c8d99f6fbe15301716c5c03fd1f181d8e85af0c4715f6b1cd66f1cf174fd43c", func := "pursebearer/pursebearerlaw13.SketchShare", spec := "sketchShare", unfollowed := true, recurses := true, apart := false }
def SketchShareSaid : Prop := sketchShareRow.holds Try.pinned (OpenSpec.ofChange sketchShareSpec)

/-- ITS FALSE NEIGHBOUR: 'it returns false'. Refute it at one input. -/
def sketchShareWrong : ChangeSpec := { name := "sketchShare", fn := fun _ => fun
  | [d1, d2] => { results := [.lit (.bool false)], args := [d1, d2] }
  | _ => none }
def SketchShareWrongFalsely : Prop := sketchShareRow.holds Try.pinned (OpenSpec.ofChange sketchShareWrong)

/-- 'pursebearerlaw13.SketchJoins': WHATEVER THE INPUT: true; the input reads as it did. -/
def sketchJoinsSpec : ChangeSpec := { name := "sketchJoins", fn := fun _ => fun
  | [d1, d2, d3, d4] => { results := [.lit (.bool true)], args := [d1, d2, d3, d4] }
  | _ => none }
def sketchJoinsRow : OpenClaim := { program := "ytobmnjigenplnaa", sum := "0c8d99f6fbe15301716c5c03fd1f181d8e85af0c4715f6b1cd66f1cf174fd43c", func := "pursebearer/pursebearerlaw13.SketchJoins", spec := "sketchJoins", unfollowed := true, recurses := true, apart := false }
def SketchJoinsSaid : Prop := sketchJoinsRow.holds Try.pinned (OpenSpec.ofChange sketchJoinsSpec)

/-- ITS FALSE NEIGHBOUR: 'it returns false'. Refute it at one input. -/
def sketchJoinsWrong : ChangeSpec := { name := "sketchJoins", fn := fun _ => fun
  | [d1, d2, d3, d4] => { results := [.lit (.bool false)], args := [d1, d2, d3, d4] }
  | _ => none }
def SketchJoinsWrongFalsely : Prop := sketchJoinsRow.holds Try.pinned (OpenSpec.ofChange sketchJoinsWrong)

/- THE SECOND FORM. 'bulk': how many values and letters a reading holds, each counted each time it is reached (what is shared counts as often as it is met; a slice's spare places count too). A statement '..UptoSaid' is the law's where the arguments, and the package variables that the reading takes, are together of bulk at most 1048576: NARROWER than '..Said'. Prove '..Said' where nothing that the law and all that it calls make is longer than what came in: it says more and counts as full. Else prove '..UptoSaid'. A law counts once. -/
mutual
def uptoBulk {H : Type} : DataW H → Nat
  | .lit (.string bytes) => bytes.length + 1
  | .lit _ => 1
  | .nil => 1
  | .ptr d => uptoBulk d + 1
  | .slice elems spare => uptoBulkAll elems + uptoBulkAll spare + 1
  | .agg parts => uptoBulkAll parts + 1
  | .iface _ d => uptoBulk d + 1
  | .map entries => uptoBulkEntries entries + 1
  | .held _ => 1
def uptoBulkAll {H : Type} : List (DataW H) → Nat
  | [] => 0
  | d :: r => uptoBulk d + uptoBulkAll r
def uptoBulkEntries {H : Type} : List (Lit × DataW H) → Nat
  | [] => 0
  | x :: r => uptoBulkEntry x + uptoBulkEntries r
def uptoBulkEntry {H : Type} : Lit × DataW H → Nat
  | (.string bytes, d) => bytes.length + uptoBulk d + 1
  | (_, d) => uptoBulk d + 1
 end
def uptoSmall : (H : Type) → List (DataW H) → Bool := fun _ ds => decide (uptoBulkAll ds ≤ 1048576)
def OpenSpec.upto (s : _root_.Go.ChangeSpec) : _root_.Go.OpenSpec := { _root_.Go.OpenSpec.ofChange s with cond := some uptoSmall }

/-- 'pursebearerlaw13.SketchBuckets', WHERE WHAT IT READS IS OF BULK AT MOST 1048576: true; the input reads as it did. -/
def sketchBucketsUptoRow : OpenClaim := { program := "ytobmnjigenplnaa", sum := "0c8d99f6fbe15301716c5c03fd1f181d8e85af0c4715f6b1cd66f1cf174fd43c", func := "pursebearer/pursebearerlaw13.SketchBuckets", spec := "sketchBuckets", unfollowed := true, recurses := true, apart := false, narrowed := true }
def SketchBucketsUptoSaid : Prop := sketchBucketsUptoRow.holds Try.pinned (OpenSpec.upto sketchBucketsSpec)

/-- 'pursebearerlaw13.SketchRises', WHERE WHAT IT READS IS OF BULK AT MOST 1048576: true; the input reads as it did. -/
def sketchRisesUptoRow : OpenClaim := { program := "ytobmnjigenplnaa", sum := "0c8d99f6fbe15301716c5c03fd1f181d8e85af0c4715f6b1cd66f1cf174fd43c", func := "pursebearer/pursebearerlaw13.SketchRises", spec := "sketchRises", unfollowed := true, recurses := true, apart := false, narrowed := true }
def SketchRisesUptoSaid : Prop := sketchRisesUptoRow.holds Try.pinned (OpenSpec.upto sketchRisesSpec)

/-- 'pursebearerlaw13.SketchTells', WHERE WHAT IT READS IS OF BULK AT MOST 1048576: true; the input reads as it did. -/
def sketchTellsUptoRow : OpenClaim := { program := "ytobmnjigenplnaa", sum := "0c8d99f6fbe15301716c5c03fd1f181d8e85af0c4715f6b1cd66f1cf174fd43c", func := "pursebearer/pursebearerlaw13.SketchTells", spec := "sketchTells", unfollowed := true, recurses := true, apart := false, narrowed := true }
def SketchTellsUptoSaid : Prop := sketchTellsUptoRow.holds Try.pinned (OpenSpec.upto sketchTellsSpec)

/-- 'pursebearerlaw13.SketchNear', WHERE WHAT IT READS IS OF BULK AT MOST 1048576: true; the input reads as it did. -/
def sketchNearUptoRow : OpenClaim := { program := "ytobmnjigenplnaa", sum := "0c8d99f6fbe15301716c5c03fd1f181d8e85af0c4715f6b1cd66f1cf174fd43c", func := "pursebearer/pursebearerlaw13.SketchNear", spec := "sketchNear", unfollowed := true, recurses := true, apart := false, narrowed := true }
def SketchNearUptoSaid : Prop := sketchNearUptoRow.holds Try.pinned (OpenSpec.upto sketchNearSpec)

/-- 'pursebearerlaw13.SketchRow', WHERE WHAT IT READS IS OF BULK AT MOST 1048576: true; the input reads as it did. -/
def sketchRowUptoRow : OpenClaim := { program := "ytobmnjigenplnaa", sum := "0c8d99f6fbe15301716c5c03fd1f181d8e85af0c4715f6b1cd66f1cf174fd43c", func := "pursebearer/pursebearerlaw13.SketchRow", spec := "sketchRow", unfollowed := true, recurses := true, apart := false, narrowed := true }
def SketchRowUptoSaid : Prop := sketchRowUptoRow.holds Try.pinned (OpenSpec.upto sketchRowSpec)

/-- 'pursebearerlaw13.SketchShare', WHERE WHAT IT READS IS OF BULK AT MOST 1048576: true; the input reads as it did. -/
def sketchShareUptoRow : OpenClaim := { program := "ytobmnjigenplnaa", sum := "0c8d99f6fbe15301716c5c03fd1f181d8e85af0c4715f6b1cd66f1cf174fd43c", func := "pursebearer/pursebearerlaw13.SketchShare", spec := "sketchShare", unfollowed := true, recurses := true, apart := false, narrowed := true }
def SketchShareUptoSaid : Prop := sketchShareUptoRow.holds Try.pinned (OpenSpec.upto sketchShareSpec)

/-- 'pursebearerlaw13.SketchJoins', WHERE WHAT IT READS IS OF BULK AT MOST 1048576: true; the input reads as it did. -/
def sketchJoinsUptoRow : OpenClaim := { program := "ytobmnjigenplnaa", sum := "0c8d99f6fbe15301716c5c03fd1f181d8e85af0c4715f6b1cd66f1cf174fd43c", func := "pursebearer/pursebearerlaw13.SketchJoins", spec := "sketchJoins", unfollowed := true, recurses := true, apart := false, narrowed := true }
def SketchJoinsUptoSaid : Prop := sketchJoinsUptoRow.holds Try.pinned (OpenSpec.upto sketchJoinsSpec)

end Rows
end Go.Proofs.Ytobmnjigenplnaa
