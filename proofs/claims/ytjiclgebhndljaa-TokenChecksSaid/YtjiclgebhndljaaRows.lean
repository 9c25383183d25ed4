/-
  No cell of these rows narrows 'for every input' (looked for: loops, veiled, ifaces, maps, wideKeys, modest, calm, conditions, laid).
  DERIVED. THE GIVEN ROWS OF THIS SEAT. 7 by the template 'for every input the law returns true; each argument reads behind the call as it read before'; 0 by the template 'total and deterministic' (their statements: YtjiclgebhndljaaTotals.lean).
  GIVEN WITH THE SEED: the statements are not yours to turn. If you find one false, say at which input.
  Laid BY PROGRAM, IN A SANDBOX (cutbox-rows.mjs): the forced cells as the released guide's own fill.sh prints them over the translation f92d3c4a1ba4820f… (all of the seat's roots in one cut). By AI agents, Wed Nov 11 2026. No macro, syntax, notation, axiom, sorry.
-/
import Derived.Test.YtjiclgebhndljaaChecked
import GoSem.Claim
import GoSem.ClaimJoined
import GoSem.ClaimMapViews
import Derived.JoinedTies
import Derived.KernelRfl
namespace Go.Proofs.Ytjiclgebhndljaa
/- THE CELL 'sum', in the pinned program and in every row, IS THE sha256 OF THE DUMP (.gsa) THAT YtjiclgebhndljaaProg.lean LOADS. Nothing in Lean hashes anything: it is a label: what it is worth is what the hold of that sum in a sandbox is worth. -/
noncomputable def Try.pinned : Pinned := { name := "ytjiclgebhndljaa", sum := "f92d3c4a1ba4820f32ae80ca9a4be87cc38dc19b2d25819e0b0f68c0082ab77f", checked := Try.checked }
namespace Rows
def none {H : Type} : Left H := { results := [], args := [] }

/-- 'pursebearerlaw19.TokenStorm': WHATEVER THE INPUT: true; the input reads as it did. -/
def tokenStormSpec : ChangeSpec := { name := "tokenStorm", fn := fun _ => fun
  | [d1, d2, d3] => { results := [.lit (.bool true)], args := [d1, d2, d3] }
  | _ => none }
def tokenStormRow : OpenClaim := { program := "ytjiclgebhndljaa", sum := "f92d3c4a1ba4820f32ae80ca9a4be87cc38dc19b2d25819e0b0f68c0082ab77f", func := "pursebearer/pursebearerlaw19.TokenStorm", spec := "tokenStorm", unfollowed := true, recurses := true, named := ["math/bits.divideError", "math/bits.overflowError"], apart := false }
def TokenStormSaid : Prop := tokenStormRow.holds Try.pinned (OpenSpec.ofChange tokenStormSpec)

/-- ITS FALSE NEIGHBOUR: 'it returns false'. Refute it at one input. -/
def tokenStormWrong : ChangeSpec := { name := "tokenStorm", fn := fun _ => fun
  | [d1, d2, d3] => { results := [.lit (.bool false)], args := [d1, d2, d3] }
  | _ => none }
def TokenStormWrongFalsely : Prop := tokenStormRow.holds Try.pinned (OpenSpec.ofChange tokenStormWrong)

/-- 'pursebearerlaw19.TokenAll': WHATEVER THE INPUT: true; the input reads as it did. -/
def tokenAllSpec : ChangeSpec := { name := "tokenAll", fn := fun _ => fun
  | [d1, d2] => { results := [.lit (.bool true)], args := [d1, d2] }
  | _ => none }
def tokenAllRow : OpenClaim := { program := "ytjiclgebhndljaa", sum := "f92d3c4a1ba4820f32ae80ca9a4be87cc38dc19b2d25819e0b0f68c0082ab77f", func := "pursebearer/pursebearerlaw19.TokenAll", spec := "tokenAll", unfollowed := true, recurses := true, named := ["math/bits.divideError", "math/bits.overflowError"], apart := false }
def TokenAllSaid : Prop := tokenAllRow.holds Try.pinned (OpenSpec.ofChange tokenAllSpec)

/-- ITS FALSE NEIGHBOUR: 'it returns false'. Refute it at one input. -/
def tokenAllWrong : ChangeSpec := { name := "tokenAll", fn := fun _ => fun
  | [d1, d2] => { results := [.lit (.bool false)], args := [d1, d2] }
  | _ => none }
def TokenAllWrongFalsely : Prop := tokenAllRow.holds Try.pinned (OpenSpec.ofChange tokenAllWrong)

/-- 'pursebearerlaw19.TokenShares': WHATEVER THE INPUT: true; the input reads as it did. -/
def tokenSharesSpec : ChangeSpec := { name := "tokenShares", fn := fun _ => fun
  | [d1, d2, d3] => { results := [.lit (.bool true)], args := [d1, d2, d3] }
  | _ => none }
def tokenSharesRow : OpenClaim := { program := "ytjiclgebhndljaa", sum := "f92d3c4a1ba4820f32ae80ca9a4be87cc38dc19b2d25819e0b0f68c0082ab77f", func := "pursebearer/pursebearerlaw19.TokenShares", spec := "tokenShares", unfollowed := true, recurses := true, named := ["math/bits.divideError", "math/bits.overflowError"], apart := false }
def TokenSharesSaid : Prop := tokenSharesRow.holds Try.pinned (OpenSpec.ofChange tokenSharesSpec)

/-- ITS FALSE NEIGHBOUR: 'it returns false'. Refute it at one input. -/
def tokenSharesWrong : ChangeSpec := { name := "tokenShares", fn := fun _ => fun
  | [d1, d2, d3] => { results := [.lit (.bool false)], args := [d1, d2, d3] }
  | _ => none }
def TokenSharesWrongFalsely : Prop := tokenSharesRow.holds Try.pinned (OpenSpec.ofChange tokenSharesWrong)

/-- 'pursebearerlaw19.TokenChecks': WHATEVER THE INPUT: true; the input reads as it did. -/
def tokenChecksSpec : ChangeSpec := { name := "tokenChecks", fn := fun _ => fun
  | [d1, d2, d3, d4] => { results := [.lit (.bool true)], args := [d1, d2, d3, d4] }
  | _ => none }
def tokenChecksRow : OpenClaim := { program := "ytjiclgebhndljaa", sum := "f92d3c4a1ba4820f32ae80ca9a4be87cc38dc19b2d25819e0b0f68c0082ab77f", func := "pursebearer/pursebearerlaw19.TokenChecks", spec := "tokenChecks", unfollowed := true, recurses := true, named := ["math/bits.divideError", "math/bits.overflowError"], apart := false }
def TokenChecksSaid : Prop := tokenChecksRow.holds Try.pinned (OpenSpec.ofChange tokenChecksSpec)

/-- ITS FALSE NEIGHBOUR: 'it returns false'. Refute it at one input. -/
def tokenChecksWrong : ChangeSpec := { name := "tokenChecks", fn := fun _ => fun
  | [d1, d2, d3, d4] => { results := [.lit (.bool false)], args := [d1, d2, d3, d4] }
  | _ => none }
def TokenChecksWrongFalsely : Prop := tokenChecksRow.holds Try.pinned (OpenSpec.ofChange tokenChecksWrong)

/-- 'pursebearerlaw19.TokenPlays': WHATEVER THE INPUT: true; the input reads as it did. -/
def tokenPlaysSpec : ChangeSpec := { name := "tokenPlays", fn := fun _ => fun
  | [d1, d2] => { results := [.lit (.bool true)], args := [d1, d2] }
  | _ => none }
def tokenPlaysRow : OpenClaim := { program := "ytjiclgebhndljaa", sum := "f92d3c4a1ba4820f32ae80ca9a4be87cc38dc19b2d25819e0b0f68c0082ab77f", func := "pursebearer/pursebearerlaw19.TokenPlays", spec := "tokenPlays", unfollowed := true, recurses := true, named := ["math/bits.divideError", "math/bits.overflowError"], apart := false }
def TokenPlaysSaid : Prop := tokenPlaysRow.holds Try.pinned (OpenSpec.ofChange tokenPlaysSpec)

/-- ITS FALSE NEIGHBOUR: 'it returns false'. Refute it at one input. -/
def tokenPlaysWrong : ChangeSpec := { name := "tokenPlays", fn := fun _ => fun
  | [d1, d2] => { results := [.lit (.bool false)], args := [d1, d2] }
  | _ => none }
def TokenPlaysWrongFalsely : Prop := tokenPlaysRow.holds Try.pinned (OpenSpec.ofChange tokenPlaysWrong)

/-- 'pursebearerlaw19.TokenConserved': WHATEVER THE INPUT: true; the input reads as it did. -/
def tokenConservedSpec : ChangeSpec := { name := "tokenConserved", fn := fun _ => fun
  | [d1, d2] => { results := [.lit (.bool true)], args := [d1, d2] }
  | _ => none }
def tokenConservedRow : OpenClaim := { program := "ytjiclgebhndljaa", sum := "f92d3c4a1ba4820f32ae80ca9a4be87cc38dc19b2d25819e0b0f68c0082ab77f", func := "pursebearer/pursebearerlaw19.TokenConserved", spec := "tokenConserved", unfollowed := true, recurses := true, named := ["math/bits.divideError", "math/bits.overflowError"], apart := false }
def TokenConservedSaid : Prop := tokenConservedRow.holds Try.pinned (OpenSpec.ofChange tokenConservedSpec)

/-- ITS FALSE NEIGHBOUR: 'it returns false'. Refute it at one input. -/
def tokenConservedWrong : ChangeSpec := { name := "tokenConserved", fn := fun _ => fun
  | [d1, d2] => { results := [.lit (.bool false)], args := [d1, d2] }
  | _ => none }
def TokenConservedWrongFalsely : Prop := tokenConservedRow.holds Try.pinned (OpenSpec.ofChange tokenConservedWrong)

/-- 'pursebearerlaw19.TokenLeft': WHATEVER THE INPUT: true; the input reads as it did. -/
def tokenLeftSpec : ChangeSpec := { name := "tokenLeft", fn := fun _ => fun
  | [d1, d2] => { results := [.lit (.bool true)], args := [d1, d2] }
  | _ => none }
def tokenLeftRow : OpenClaim := { program := "ytjiclgebhndljaa", sum := "f92d3c4a1ba4820f32ae80ca9a4be87cc38dc19b2d25819e0b0f68c0082ab77f", func := "pursebearer/pursebearerlaw19.TokenLeft", spec := "tokenLeft", unfollowed := true, recurses := true, named := ["math/bits.divideError", "math/bits.overflowError"], apart := false }
def TokenLeftSaid : Prop := tokenLeftRow.holds Try.pinned (OpenSpec.ofChange tokenLeftSpec)

/-- ITS FALSE NEIGHBOUR: 'it returns false'. Refute it at one input. -/
def tokenLeftWrong : ChangeSpec := { name := "tokenLeft", fn := fun _ => fun
  | [d1, d2] => { results := [.lit (.bool false)], args := [d1, d2] }
  | _ => none }
def TokenLeftWrongFalsely : Prop := tokenLeftRow.holds Try.pinned (OpenSpec.ofChange tokenLeftWrong)

/- THE SECOND FORM. 'bulk': how many values and letters a reading holds, each counted each time it is reached (what is shared counts as often as it is met; a slice's spare places count too). A statement '..UptoSaid' is the law's where the arguments, and the package variables that the reading takes, are together of bulk at most 1048576: NARROWER than '..Said'. Prove '..Said' where nothing that the law and all that it calls make is longer than what came in: it says more and counts as full. Else prove '..UptoSaid'. A law counts once. -/
mutual
def uptoBulk {H : Type} : DataW H → Nat
  | .lit (.string bytes) => bytes.length + 1
  | .lit _ => 1
  | .nil => 1
  | .ptr d => uptoBulk d + 1
  | .slice elems spare => uptoBulkAll elems + uptoBulkAll spare + 1
  | .agg parts => uptoBulkAll parts + 1
  | .iface _ d => uptoBulk d + 1
  | .map entries => uptoBulkEntries entries + 1
  | .held _ => 1
def uptoBulkAll {H : Type} : List (DataW H) → Nat
  | [] => 0
  | d :: r => uptoBulk d + uptoBulkAll r
def uptoBulkEntries {H : Type} : List (Lit × DataW H) → Nat
  | [] => 0
  | x :: r => uptoBulkEntry x + uptoBulkEntries r
def uptoBulkEntry {H : Type} : Lit × DataW H → Nat
  | (.string bytes, d) => bytes.length + uptoBulk d + 1
  | (_, d) => uptoBulk d + 1
 end
def uptoSmall : (H : Type) → List (DataW H) → Bool := fun _ ds => decide (uptoBulkAll ds ≤ 1048576)
def OpenSpec.upto (s : _root_.Go.ChangeSpec) : _root_.Go.OpenSpec := { _root_.Go.OpenSpec.ofChange s with cond := some uptoSmall }

/-- 'pursebearerlaw19.TokenStorm', WHERE WHAT IT READS IS OF BULK AT MOST 1048576: true; the input reads as it did. -/
def tokenStormUptoRow : OpenClaim := { program := "ytjiclgebhndljaa", sum := "f92d3c4a1ba4820f32ae80ca9a4be87cc38dc19b2d25819e0b0f68c0082ab77f", func := "pursebearer/pursebearerlaw19.TokenStorm", spec := "tokenStorm", unfollowed := true, recurses := true, named := ["math/bits.divideError", "math/bits.overflowError"], apart := false, narrowed := true }
def TokenStormUptoSaid : Prop := tokenStormUptoRow.holds Try.pinned (OpenSpec.upto tokenStormSpec)

/-- 'pursebearerlaw19.TokenAll', WHERE WHAT IT READS IS OF BULK AT MOST 1048576: true; the input reads as it did. -/
def tokenAllUptoRow : OpenClaim := { program := "ytjiclgebhndljaa", sum := "f92d3c4a1ba4820f32ae80ca9a4be87cc38dc19b2d25819e0b0f68c0082ab77f", func := "pursebearer/pursebearerlaw19.TokenAll", spec := "tokenAll", unfollowed := true, recurses := true, named := ["math/bits.divideError", "math/bits.overflowError"], apart := false, narrowed := true }
def TokenAllUptoSaid : Prop := tokenAllUptoRow.holds Try.pinned (OpenSpec.upto tokenAllSpec)

/-- 'pursebearerlaw19.TokenShares', WHERE WHAT IT READS IS OF BULK AT MOST 1048576: true; the input reads as it did. -/
def tokenSharesUptoRow : OpenClaim := { program := "ytjiclgebhndljaa", sum := "f92d3c4a1ba4820f32ae80ca9a4be87cc38dc19b2d25819e0b0f68c0082ab77f", func := "pursebearer/pursebearerlaw19.TokenShares", spec := "tokenShares", unfollowed := true, recurses := true, named := ["math/bits.divideError", "math/bits.overflowError"], apart := false, narrowed := true }
def TokenSharesUptoSaid : Prop := tokenSharesUptoRow.holds Try.pinned (OpenSpec.upto tokenSharesSpec)

/-- 'pursebearerlaw19.TokenChecks', WHERE WHAT IT READS IS OF BULK AT MOST 1048576: true; the input reads as it did. -/
def tokenChecksUptoRow : OpenClaim := { program := "ytjiclgebhndljaa", sum := "f92d3c4a1ba4820f32ae80ca9a4be87cc38dc19b2d25819e0b0f68c0082ab77f", func := "pursebearer/pursebearerlaw19.TokenChecks", spec := "tokenChecks", unfollowed := true, recurses := true, named := ["math/bits.divideError", "math/bits.overflowError"], apart := false, narrowed := true }
def TokenChecksUptoSaid : Prop := tokenChecksUptoRow.holds Try.pinned (OpenSpec.upto tokenChecksSpec)

/-- 'pursebearerlaw19.TokenPlays', WHERE WHAT IT READS IS OF BULK AT MOST 1048576: true; the input reads as it did. -/
def tokenPlaysUptoRow : OpenClaim := { program := "ytjiclgebhndljaa", sum := "f92d3c4a1ba4820f32ae80ca9a4be87cc38dc19b2d25819e0b0f68c0082ab77f", func := "pursebearer/pursebearerlaw19.TokenPlays", spec := "tokenPlays", unfollowed := true, recurses := true, named := ["math/bits.divideError", "math/bits.overflowError"], apart := false, narrowed := true }
def TokenPlaysUptoSaid : Prop := tokenPlaysUptoRow.holds Try.pinned (OpenSpec.upto tokenPlaysSpec)

/-- 'pursebearerlaw19.TokenConserved', WHERE WHAT IT READS IS OF BULK AT MOST 1048576: true; the input reads as it did. -/
def tokenConservedUptoRow : OpenClaim := { program := "ytjiclgebhndljaa", sum := "f92d3c4a1ba4820f32ae80ca9a4be87cc38dc19b2d25819e0b0f68c0082ab77f", func := "pursebearer/pursebearerlaw19.TokenConserved", spec := "tokenConserved", unfollowed := true, recurses := true, named := ["math/bits.divideError", "math/bits.overflowError"], apart := false, narrowed := true }
def TokenConservedUptoSaid : Prop := tokenConservedUptoRow.holds Try.pinned (OpenSpec.upto tokenConservedSpec)

/-- 'pursebearerlaw19.TokenLeft', WHERE WHAT IT READS IS OF BULK AT MOST 1048576: true; the input reads as it did. -/
def tokenLeftUptoRow : OpenClaim := { program := "ytjiclgebhndljaa", sum := "f92d3c4a1ba4820f32ae80ca9a4be87cc38dc19b2d25819e0b0f68c0082ab77f", func := "pursebearer/pursebearerlaw19.TokenLeft", spec := "tokenLeft", unfollowed := true, recurses := true, named := ["math/bits.divideError", "math/bits.overflowError"], apart := false, narrowed := true }
def TokenLeftUptoSaid : Prop := tokenLeftUptoRow.holds Try.pinned (OpenSpec.upto tokenLeftSpec)

end Rows
end Go.Proofs.Ytjiclgebhndljaa
