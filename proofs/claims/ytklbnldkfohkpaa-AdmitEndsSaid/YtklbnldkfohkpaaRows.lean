/-
  No cell of these rows narrows 'for every input' (looked for: loops, veiled, ifaces, maps, wideKeys, modest, calm, conditions, laid).
  DERIVED. THE GIVEN ROWS OF THIS SEAT. 5 by the template 'for every input the law returns true; each argument reads behind the call as it read before'; 0 by the template 'total and deterministic' (their statements: YtklbnldkfohkpaaTotals.lean).
  GIVEN WITH THE SEED: the statements are not yours to turn. If you find one false, say at which input.
  Laid BY PROGRAM, IN A SANDBOX (cutbox-rows.mjs): the forced cells as the released guide's own fill.sh prints them over the translation 54eec1030df39c6a… (all of the seat's roots in one cut). By AI agents, Wed Nov 11 2026. No macro, syntax, notation, axiom, sorry.
-/
import Derived.Test.YtklbnldkfohkpaaChecked
import GoSem.Claim
import GoSem.ClaimJoined
import GoSem.ClaimMapViews
import Derived.JoinedTies
import Derived.KernelRfl
namespace Go.Proofs.Ytklbnldkfohkpaa
/- THE CELL 'sum', in the pinned program and in every row, IS THE sha256 OF THE DUMP (.gsa) THAT YtklbnldkfohkpaaProg.lean LOADS. Nothing in Lean hashes anything: it is a label: what it is worth is what the hold of that sum in a sandbox is worth. -/
noncomputable def Try.pinned : Pinned := { name := "ytklbnldkfohkpaa", sum := "54eec1030df39c6a891a9eb8489ccf34ba2099795d3025734fe930a329208022", checked := Try.checked }
namespace Rows
def none {H : Type} : Left H := { results := [], args := [] }

/-- 'pursebearerlaw23.AdmitRow': WHATEVER THE INPUT: true; the input reads as it did. -/
def admitRowSpec : ChangeSpec := { name := "admitRow", fn := fun _ => fun
  | [d1, d2] => { results := [.lit (.bool true)], args := [d1, d2] }
  | _ => none }
def admitRowRow : OpenClaim := { program := "ytklbnldkfohkpaa", sum := "54eec1030df39c6a891a9eb8489ccf34ba2099795d3025734fe930a329208022", func := "pursebearer/pursebearerlaw23.AdmitRow", spec := "admitRow", unfollowed := true, recurses := true, apart := false }
def AdmitRowSaid : Prop := admitRowRow.holds Try.pinned (OpenSpec.ofChange admitRowSpec)

/-- ITS FALSE NEIGHBOUR: 'it returns false'. Refute it at one input. -/
def admitRowWrong : ChangeSpec := { name := "admitRow", fn := fun _ => fun
  | [d1, d2] => { results := [.lit (.bool false)], args := [d1, d2] }
  | _ => none }
def AdmitRowWrongFalsely : Prop := admitRowRow.holds Try.pinned (OpenSpec.ofChange admitRowWrong)

/-- 'pursebearerlaw23.AdmitRuns': WHATEVER THE INPUT: true; the input reads as it did. -/
def admitRunsSpec : ChangeSpec := { name := "admitRuns", fn := fun _ => fun
  | [d1, d2, d3] => { results := [.lit (.bool true)], args := [d1, d2, d3] }
  | _ => none }
def admitRunsRow : OpenClaim := { program := "ytklbnldkfohkpaa", sum := "54eec1030df39c6a891a9eb8489ccf34ba2099795d3025734fe930a329208022", func := "pursebearer/pursebearerlaw23.AdmitRuns", spec := "admitRuns", unfollowed := true, recurses := true, apart := false }
def AdmitRunsSaid : Prop := admitRunsRow.holds Try.pinned (OpenSpec.ofChange admitRunsSpec)

/-- ITS FALSE NEIGHBOUR: 'it returns false'. Refute it at one input. -/
def admitRunsWrong : ChangeSpec := { name := "admitRuns", fn := fun _ => fun
  | [d1, d2, d3] => { results := [.lit (.bool false)], args := [d1, d2, d3] }
  | _ => none }
def AdmitRunsWrongFalsely : Prop := admitRunsRow.holds Try.pinned (OpenSpec.ofChange admitRunsWrong)

/-- 'pursebearerlaw23.AdmitPlaces': WHATEVER THE INPUT: true; the input reads as it did. -/
def admitPlacesSpec : ChangeSpec := { name := "admitPlaces", fn := fun _ => fun
  | [d1, d2, d3] => { results := [.lit (.bool true)], args := [d1, d2, d3] }
  | _ => none }
def admitPlacesRow : OpenClaim := { program := "ytklbnldkfohkpaa", sum := "54eec1030df39c6a891a9eb8489ccf34ba2099795d3025734fe930a329208022", func := "pursebearer/pursebearerlaw23.AdmitPlaces", spec := "admitPlaces", unfollowed := true, recurses := true, apart := false }
def AdmitPlacesSaid : Prop := admitPlacesRow.holds Try.pinned (OpenSpec.ofChange admitPlacesSpec)

/-- ITS FALSE NEIGHBOUR: 'it returns false'. Refute it at one input. -/
def admitPlacesWrong : ChangeSpec := { name := "admitPlaces", fn := fun _ => fun
  | [d1, d2, d3] => { results := [.lit (.bool false)], args := [d1, d2, d3] }
  | _ => none }
def AdmitPlacesWrongFalsely : Prop := admitPlacesRow.holds Try.pinned (OpenSpec.ofChange admitPlacesWrong)

/-- 'pursebearerlaw23.AdmitEnds': WHATEVER THE INPUT: true; the input reads as it did. -/
def admitEndsSpec : ChangeSpec := { name := "admitEnds", fn := fun _ => fun
  | [d1, d2, d3, d4] => { results := [.lit (.bool true)], args := [d1, d2, d3, d4] }
  | _ => none }
def admitEndsRow : OpenClaim := { program := "ytklbnldkfohkpaa", sum := "54eec1030df39c6a891a9eb8489ccf34ba2099795d3025734fe930a329208022", func := "pursebearer/pursebearerlaw23.AdmitEnds", spec := "admitEnds", unfollowed := true, recurses := true, apart := false }
def AdmitEndsSaid : Prop := admitEndsRow.holds Try.pinned (OpenSpec.ofChange admitEndsSpec)

/-- ITS FALSE NEIGHBOUR: 'it returns false'. Refute it at one input. -/
def admitEndsWrong : ChangeSpec := { name := "admitEnds", fn := fun _ => fun
  | [d1, d2, d3, d4] => { results := [.lit (.bool false)], args := [d1, d2, d3, d4] }
  | _ => none }
def AdmitEndsWrongFalsely : Prop := admitEndsRow.holds Try.pinned (OpenSpec.ofChange admitEndsWrong)

/-- 'pursebearerlaw23.AdmitLimit': WHATEVER THE INPUT: true; the input reads as it did. -/
def admitLimitSpec : ChangeSpec := { name := "admitLimit", fn := fun _ => fun
  | [d1, d2, d3] => { results := [.lit (.bool true)], args := [d1, d2, d3] }
  | _ => none }
def admitLimitRow : OpenClaim := { program := "ytklbnldkfohkpaa", sum := "54eec1030df39c6a891a9eb8489ccf34ba2099795d3025734fe930a329208022", func := "pursebearer/pursebearerlaw23.AdmitLimit", spec := "admitLimit", unfollowed := true, recurses := true, apart := false }
def AdmitLimitSaid : Prop := admitLimitRow.holds Try.pinned (OpenSpec.ofChange admitLimitSpec)

/-- ITS FALSE NEIGHBOUR: 'it returns false'. Refute it at one input. -/
def admitLimitWrong : ChangeSpec := { name := "admitLimit", fn := fun _ => fun
  | [d1, d2, d3] => { results := [.lit (.bool false)], args := [d1, d2, d3] }
  | _ => none }
def AdmitLimitWrongFalsely : Prop := admitLimitRow.holds Try.pinned (OpenSpec.ofChange admitLimitWrong)

/- THE SECOND FORM. 'bulk': how many values and letters a reading holds, each counted each time it is reached (what is shared counts as often as it is met; a slice's spare places count too). A statement '..UptoSaid' is the law's where the arguments, and the package variables that the reading takes, are together of bulk at most 1048576: NARROWER than '..Said'. Prove '..Said' where nothing that the law and all that it calls make is longer than what came in: it says more and counts as full. Else prove '..UptoSaid'. A law counts once. -/
mutual
def uptoBulk {H : Type} : DataW H → Nat
  | .lit (.string bytes) => bytes.length + 1
  | .lit _ => 1
  | .nil => 1
  | .ptr d => uptoBulk d + 1
  | .slice elems spare => uptoBulkAll elems + uptoBulkAll spare + 1
  | .agg parts => uptoBulkAll parts + 1
  | .iface _ d => uptoBulk d + 1
  | .map entries => uptoBulkEntries entries + 1
  | .held _ => 1
def uptoBulkAll {H : Type} : List (DataW H) → Nat
  | [] => 0
  | d :: r => uptoBulk d + uptoBulkAll r
def uptoBulkEntries {H : Type} : List (Lit × DataW H) → Nat
  | [] => 0
  | x :: r => uptoBulkEntry x + uptoBulkEntries r
def uptoBulkEntry {H : Type} : Lit × DataW H → Nat
  | (.string bytes, d) => bytes.length + uptoBulk d + 1
  | (_, d) => uptoBulk d + 1
 end
def uptoSmall : (H : Type) → List (DataW H) → Bool := fun _ ds => decide (uptoBulkAll ds ≤ 1048576)
def OpenSpec.upto (s : _root_.Go.ChangeSpec) : _root_.Go.OpenSpec := { _root_.Go.OpenSpec.ofChange s with cond := some uptoSmall }

/-- 'pursebearerlaw23.AdmitRow', WHERE WHAT IT READS IS OF BULK AT MOST 1048576: true; the input reads as it did. -/
def admitRowUptoRow : OpenClaim := { program := "ytklbnldkfohkpaa", sum := "54eec1030df39c6a891a9eb8489ccf34ba2099795d3025734fe930a329208022", func := "pursebearer/pursebearerlaw23.AdmitRow", spec := "admitRow", unfollowed := true, recurses := true, apart := false, narrowed := true }
def AdmitRowUptoSaid : Prop := admitRowUptoRow.holds Try.pinned (OpenSpec.upto admitRowSpec)

/-- 'pursebearerlaw23.AdmitRuns', WHERE WHAT IT READS IS OF BULK AT MOST 1048576: true; the input reads as it did. -/
def admitRunsUptoRow : OpenClaim := { program := "ytklbnldkfohkpaa", sum := "54eec1030df39c6a891a9eb8489ccf34ba2099795d3025734fe930a329208022", func := "pursebearer/pursebearerlaw23.AdmitRuns", spec := "admitRuns", unfollowed := true, recurses := true, apart := false, narrowed := true }
def AdmitRunsUptoSaid : Prop := admitRunsUptoRow.holds Try.pinned (OpenSpec.upto admitRunsSpec)

/-- 'pursebearerlaw23.AdmitPlaces', WHERE WHAT IT READS IS OF BULK AT MOST 1048576: true; the input reads as it did. -/
def admitPlacesUptoRow : OpenClaim := { program := "ytklbnldkfohkpaa", sum := "54eec1030df39c6a891a9eb8489ccf34ba2099795d3025734fe930a329208022", func := "pursebearer/pursebearerlaw23.AdmitPlaces", spec := "admitPlaces", unfollowed := true, recurses := true, apart := false, narrowed := true }
def AdmitPlacesUptoSaid : Prop := admitPlacesUptoRow.holds Try.pinned (OpenSpec.upto admitPlacesSpec)

/-- 'pursebearerlaw23.AdmitEnds', WHERE WHAT IT READS IS OF BULK AT MOST 1048576: true; the input reads as it did. -/
def admitEndsUptoRow : OpenClaim := { program := "ytklbnldkfohkpaa", sum := "54eec1030df39c6a891a9eb8489ccf34ba2099795d3025734fe930a329208022", func := "pursebearer/pursebearerlaw23.AdmitEnds", spec := "admitEnds", unfollowed := true, recurses := true, apart := false, narrowed := true }
def AdmitEndsUptoSaid : Prop := admitEndsUptoRow.holds Try.pinned (OpenSpec.upto admitEndsSpec)

/-- 'pursebearerlaw23.AdmitLimit', WHERE WHAT IT READS IS OF BULK AT MOST 1048576: true; the input reads as it did. -/
def admitLimitUptoRow : OpenClaim := { program := "ytklbnldkfohkpaa", sum := "54eec1030df39c6a891a9eb8489ccf34ba2099795d3025734fe930a329208022", func := "pursebearer/pursebearerlaw23.AdmitLimit", spec := "admitLimit", unfollowed := true, recurses := true, apart := false, narrowed := true }
def AdmitLimitUptoSaid : Prop := admitLimitUptoRow.holds Try.pinned (OpenSpec.upto admitLimitSpec)

end Rows
end Go.Proofs.Ytklbnldkfohkpaa
