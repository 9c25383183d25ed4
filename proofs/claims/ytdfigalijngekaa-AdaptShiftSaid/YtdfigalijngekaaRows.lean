/-
  No cell of these rows narrows 'for every input' (looked for: loops, veiled, ifaces, maps, wideKeys, modest, calm, conditions, laid).
  DERIVED. THE GIVEN ROWS OF THIS SEAT. 4 by the template 'for every input the law returns true; each argument reads behind the call as it read before'; 0 by the template 'total and deterministic' (their statements: YtdfigalijngekaaTotals.lean).
  GIVEN WITH THE SEED: the statements are not yours to turn. If you find one false, say at which input.
  Laid BY PROGRAM, IN A SANDBOX (cutbox-rows.mjs): the forced cells as the released guide's own fill.sh prints them over the translation 1f62fe3d25e1128e… (all of the seat's roots in one cut). By AI agents, Wed Nov 11 2026. No macro, syntax, notation, axiom, sorry.
-/
import Derived.Test.YtdfigalijngekaaChecked
import GoSem.Claim
import GoSem.ClaimJoined
import GoSem.ClaimMapViews
import Derived.JoinedTies
import Derived.KernelRfl
namespace Go.Proofs.Ytdfigalijngekaa
/- THE CELL 'sum', in the pinned program and in every row, IS THE sha256 OF THE DUMP (.gsa) THAT YtdfigalijngekaaProg.lean LOADS. Nothing in Lean hashes anything: it is a label: what it is worth is what the hold of that sum in a sandbox is worth. -/
noncomputable def Try.pinned : Pinned := { name := "ytdfigalijngekaa", sum := "1f62fe3d25e1128ee4d130e3bd7368cc22548282523da6c1a281ef67000e5703", checked := Try.checked }
namespace Rows
def none {H : Type} : Left H := { results := [], args := [] }

/-- 'pursebearerlaw21.AdaptBetween': WHATEVER THE INPUT: true; the input reads as it did. -/
def adaptBetweenSpec : ChangeSpec := { name := "adaptBetween", fn := fun _ => fun
  | [d1, d2] => { results := [.lit (.bool true)], args := [d1, d2] }
  | _ => none }
def adaptBetweenRow : OpenClaim := { program := "ytdfigalijngekaa", sum := "1f62fe3d25e1128ee4d130e3bd7368cc22548282523da6c1a281ef67000e5703", func := "pursebearer/pursebearerlaw21.AdaptBetween", spec := "adaptBetween", unfollowed := true, recurses := true, apart := false }
def AdaptBetweenSaid : Prop := adaptBetweenRow.holds Try.pinned (OpenSpec.ofChange adaptBetweenSpec)

/-- ITS FALSE NEIGHBOUR: 'it returns false'. Refute it at one input. -/
def adaptBetweenWrong : ChangeSpec := { name := "adaptBetween", fn := fun _ => fun
  | [d1, d2] => { results := [.lit (.bool false)], args := [d1, d2] }
  | _ => none }
def AdaptBetweenWrongFalsely : Prop := adaptBetweenRow.holds Try.pinned (OpenSpec.ofChange adaptBetweenWrong)

/-- 'pursebearerlaw21.AdaptApart': WHATEVER THE INPUT: true; the input reads as it did. -/
def adaptApartSpec : ChangeSpec := { name := "adaptApart", fn := fun _ => fun
  | [d1, d2] => { results := [.lit (.bool true)], args := [d1, d2] }
  | _ => none }
def adaptApartRow : OpenClaim := { program := "ytdfigalijngekaa", sum := "1f62fe3d25e1128ee4d130e3bd7368cc22548282523da6c1a281ef67000e5703", func := "pursebearer/pursebearerlaw21.AdaptApart", spec := "adaptApart", unfollowed := true, recurses := true, apart := false }
def AdaptApartSaid : Prop := adaptApartRow.holds Try.pinned (OpenSpec.ofChange adaptApartSpec)

/-- ITS FALSE NEIGHBOUR: 'it returns false'. Refute it at one input. -/
def adaptApartWrong : ChangeSpec := { name := "adaptApart", fn := fun _ => fun
  | [d1, d2] => { results := [.lit (.bool false)], args := [d1, d2] }
  | _ => none }
def AdaptApartWrongFalsely : Prop := adaptApartRow.holds Try.pinned (OpenSpec.ofChange adaptApartWrong)

/-- 'pursebearerlaw21.AdaptRises': WHATEVER THE INPUT: true; the input reads as it did. -/
def adaptRisesSpec : ChangeSpec := { name := "adaptRises", fn := fun _ => fun
  | [d1, d2, d3] => { results := [.lit (.bool true)], args := [d1, d2, d3] }
  | _ => none }
def adaptRisesRow : OpenClaim := { program := "ytdfigalijngekaa", sum := "1f62fe3d25e1128ee4d130e3bd7368cc22548282523da6c1a281ef67000e5703", func := "pursebearer/pursebearerlaw21.AdaptRises", spec := "adaptRises", unfollowed := true, recurses := true, apart := false }
def AdaptRisesSaid : Prop := adaptRisesRow.holds Try.pinned (OpenSpec.ofChange adaptRisesSpec)

/-- ITS FALSE NEIGHBOUR: 'it returns false'. Refute it at one input. -/
def adaptRisesWrong : ChangeSpec := { name := "adaptRises", fn := fun _ => fun
  | [d1, d2, d3] => { results := [.lit (.bool false)], args := [d1, d2, d3] }
  | _ => none }
def AdaptRisesWrongFalsely : Prop := adaptRisesRow.holds Try.pinned (OpenSpec.ofChange adaptRisesWrong)

/-- 'pursebearerlaw21.AdaptShift': WHATEVER THE INPUT: true; the input reads as it did. -/
def adaptShiftSpec : ChangeSpec := { name := "adaptShift", fn := fun _ => fun
  | [d1, d2, d3] => { results := [.lit (.bool true)], args := [d1, d2, d3] }
  | _ => none }
def adaptShiftRow : OpenClaim := { program := "ytdfigalijngekaa", sum := "1f62fe3d25e1128ee4d130e3bd7368cc22548282523da6c1a281ef67000e5703", func := "pursebearer/pursebearerlaw21.AdaptShift", spec := "adaptShift", unfollowed := true, recurses := true, apart := false }
def AdaptShiftSaid : Prop := adaptShiftRow.holds Try.pinned (OpenSpec.ofChange adaptShiftSpec)

/-- ITS FALSE NEIGHBOUR: 'it returns false'. Refute it at one input. -/
def adaptShiftWrong : ChangeSpec := { name := "adaptShift", fn := fun _ => fun
  | [d1, d2, d3] => { results := [.lit (.bool false)], args := [d1, d2, d3] }
  | _ => none }
def AdaptShiftWrongFalsely : Prop := adaptShiftRow.holds Try.pinned (OpenSpec.ofChange adaptShiftWrong)

/- THE SECOND FORM. 'bulk': how many values and letters a reading holds, each counted each time it is reached (what is shared counts as often as it is met; a slice's spare places count too). A statement '..UptoSaid' is the law's where the arguments, and the package variables that the reading takes, are together of bulk at most 1048576: NARROWER than '..Said'. Prove '..Said' where nothing that the law and all that it calls make is longer than what came in: it says more and counts as full. Else prove '..UptoSaid'. A law counts once. -/
mutual
def uptoBulk {H : Type} : DataW H → Nat
  | .lit (.string bytes) => bytes.length + 1
  | .lit _ => 1
  | .nil => 1
  | .ptr d => uptoBulk d + 1
  | .slice elems spare => uptoBulkAll elems + uptoBulkAll spare + 1
  | .agg parts => uptoBulkAll parts + 1
  | .iface _ d => uptoBulk d + 1
  | .map entries => uptoBulkEntries entries + 1
  | .held _ => 1
def uptoBulkAll {H : Type} : List (DataW H) → Nat
  | [] => 0
  | d :: r => uptoBulk d + uptoBulkAll r
def uptoBulkEntries {H : Type} : List (Lit × DataW H) → Nat
  | [] => 0
  | x :: r => uptoBulkEntry x + uptoBulkEntries r
def uptoBulkEntry {H : Type} : Lit × DataW H → Nat
  | (.string bytes, d) => bytes.length + uptoBulk d + 1
  | (_, d) => uptoBulk d + 1
 end
def uptoSmall : (H : Type) → List (DataW H) → Bool := fun _ ds => decide (uptoBulkAll ds ≤ 1048576)
def OpenSpec.upto (s : _root_.Go.ChangeSpec) : _root_.Go.OpenSpec := { _root_.Go.OpenSpec.ofChange s with cond := some uptoSmall }

/-- 'pursebearerlaw21.AdaptBetween', WHERE WHAT IT READS IS OF BULK AT MOST 1048576: true; the input reads as it did. -/
def adaptBetweenUptoRow : OpenClaim := { program := "ytdfigalijngekaa", sum := "1f62fe3d25e1128ee4d130e3bd7368cc22548282523da6c1a281ef67000e5703", func := "pursebearer/pursebearerlaw21.AdaptBetween", spec := "adaptBetween", unfollowed := true, recurses := true, apart := false, narrowed := true }
def AdaptBetweenUptoSaid : Prop := adaptBetweenUptoRow.holds Try.pinned (OpenSpec.upto adaptBetweenSpec)

/-- 'pursebearerlaw21.AdaptApart', WHERE WHAT IT READS IS OF BULK AT MOST 1048576: true; the input reads as it did. -/
def adaptApartUptoRow : OpenClaim := { program := "ytdfigalijngekaa", sum := "1f62fe3d25e1128ee4d130e3bd7368cc22548282523da6c1a281ef67000e5703", func := "pursebearer/pursebearerlaw21.AdaptApart", spec := "adaptApart", unfollowed := true, recurses := true, apart := false, narrowed := true }
def AdaptApartUptoSaid : Prop := adaptApartUptoRow.holds Try.pinned (OpenSpec.upto adaptApartSpec)

/-- 'pursebearerlaw21.AdaptRises', WHERE WHAT IT READS IS OF BULK AT MOST 1048576: true; the input reads as it did. -/
def adaptRisesUptoRow : OpenClaim := { program := "ytdfigalijngekaa", sum := "1f62fe3d25e1128ee4d130e3bd7368cc22548282523da6c1a281ef67000e5703", func := "pursebearer/pursebearerlaw21.AdaptRises", spec := "adaptRises", unfollowed := true, recurses := true, apart := false, narrowed := true }
def AdaptRisesUptoSaid : Prop := adaptRisesUptoRow.holds Try.pinned (OpenSpec.upto adaptRisesSpec)

/-- 'pursebearerlaw21.AdaptShift', WHERE WHAT IT READS IS OF BULK AT MOST 1048576: true; the input reads as it did. -/
def adaptShiftUptoRow : OpenClaim := { program := "ytdfigalijngekaa", sum := "1f62fe3d25e1128ee4d130e3bd7368cc22548282523da6c1a281ef67000e5703", func := "pursebearer/pursebearerlaw21.AdaptShift", spec := "adaptShift", unfollowed := true, recurses := true, apart := false, narrowed := true }
def AdaptShiftUptoSaid : Prop := adaptShiftUptoRow.holds Try.pinned (OpenSpec.upto adaptShiftSpec)

end Rows
end Go.Proofs.Ytdfigalijngekaa
