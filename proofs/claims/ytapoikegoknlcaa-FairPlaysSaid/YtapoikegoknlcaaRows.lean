/-
  No cell of these rows narrows 'for every input' (looked for: loops, veiled, ifaces, maps, wideKeys, modest, calm, conditions, laid).
  DERIVED. THE GIVEN ROWS OF THIS SEAT. 7 by the template 'for every input the law returns true; each argument reads behind the call as it read before'; 0 by the template 'total and deterministic' (their statements: YtapoikegoknlcaaTotals.lean).
  GIVEN WITH THE SEED: the statements are not yours to turn. If you find one false, say at which input.
  Laid BY PROGRAM, IN A SANDBOX (cutbox-rows.mjs): the forced cells as the released guide's own fill.sh prints them over the translation a0e68aad0f27ca8c… (all of the seat's roots in one cut). By AI agents, Wed Nov 11 2026. No macro, syntax, notation, axiom, sorry.
-/
import Derived.Test.YtapoikegoknlcaaChecked
import GoSem.Claim
import GoSem.ClaimJoined
import GoSem.ClaimMapViews
import Derived.JoinedTies
import Derived.KernelRfl
namespace Go.Proofs.Ytapoikegoknlcaa
/- THE CELL 'sum', in the pinned program and in every row, IS THE sha256 OF THE DUMP (.gsa) THAT YtapoikegoknlcaaProg.lean LOADS. Nothing in Lean hashes anything: it is a label: what it is worth is what the hold of that sum in a sandbox is worth. -/
noncomputable def Try.pinned : Pinned := { name := "ytapoikegoknlcaa", sum := "a0e68aad0f27ca8c34631c59a0c62446af150af931c0bf4c27dd156fccb011fa", checked := Try.checked }
namespace Rows
def none {H : Type} : Left H := { results := [], args := [] }

/-- 'pursebearerlaw22.FairRounds': WHATEVER THE INPUT: true; the input reads as it did. -/
def fairRoundsSpec : ChangeSpec := { name := "fairRounds", fn := fun _ => fun
  | [d] => { results := [.lit (.bool true)], args := [d] }
  | _ => none }
def fairRoundsRow : OpenClaim := { program := "ytapoikegoknlcaa", sum := "a0e68aad0f27ca8c34631c59a0c62446af150af931c0bf4c27dd156fccb011fa", func := "pursebearer/pursebearerlaw22.FairRounds", spec := "fairRounds", unfollowed := true, recurses := true, apart := false }
def FairRoundsSaid : Prop := fairRoundsRow.holds Try.pinned (OpenSpec.ofChange fairRoundsSpec)

/-- ITS FALSE NEIGHBOUR: 'it returns false'. Refute it at one input. -/
def fairRoundsWrong : ChangeSpec := { name := "fairRounds", fn := fun _ => fun
  | [d] => { results := [.lit (.bool false)], args := [d] }
  | _ => none }
def FairRoundsWrongFalsely : Prop := fairRoundsRow.holds Try.pinned (OpenSpec.ofChange fairRoundsWrong)

/-- 'pursebearerlaw22.FairPriorities': WHATEVER THE INPUT: true; the input reads as it did. -/
def fairPrioritiesSpec : ChangeSpec := { name := "fairPriorities", fn := fun _ => fun
  | [d1, d2, d3] => { results := [.lit (.bool true)], args := [d1, d2, d3] }
  | _ => none }
def fairPrioritiesRow : OpenClaim := { program := "ytapoikegoknlcaa", sum := "a0e68aad0f27ca8c34631c59a0c62446af150af931c0bf4c27dd156fccb011fa", func := "pursebearer/pursebearerlaw22.FairPriorities", spec := "fairPriorities", unfollowed := true, recurses := true, apart := false }
def FairPrioritiesSaid : Prop := fairPrioritiesRow.holds Try.pinned (OpenSpec.ofChange fairPrioritiesSpec)

/-- ITS FALSE NEIGHBOUR: 'it returns false'. Refute it at one input. -/
def fairPrioritiesWrong : ChangeSpec := { name := "fairPriorities", fn := fun _ => fun
  | [d1, d2, d3] => { results := [.lit (.bool false)], args := [d1, d2, d3] }
  | _ => none }
def FairPrioritiesWrongFalsely : Prop := fairPrioritiesRow.holds Try.pinned (OpenSpec.ofChange fairPrioritiesWrong)

/-- 'pursebearerlaw22.FairShares': WHATEVER THE INPUT: true; the input reads as it did. -/
def fairSharesSpec : ChangeSpec := { name := "fairShares", fn := fun _ => fun
  | [d1, d2, d3] => { results := [.lit (.bool true)], args := [d1, d2, d3] }
  | _ => none }
def fairSharesRow : OpenClaim := { program := "ytapoikegoknlcaa", sum := "a0e68aad0f27ca8c34631c59a0c62446af150af931c0bf4c27dd156fccb011fa", func := "pursebearer/pursebearerlaw22.FairShares", spec := "fairShares", unfollowed := true, recurses := true, apart := false }
def FairSharesSaid : Prop := fairSharesRow.holds Try.pinned (OpenSpec.ofChange fairSharesSpec)

/-- ITS FALSE NEIGHBOUR: 'it returns false'. Refute it at one input. -/
def fairSharesWrong : ChangeSpec := { name := "fairShares", fn := fun _ => fun
  | [d1, d2, d3] => { results := [.lit (.bool false)], args := [d1, d2, d3] }
  | _ => none }
def FairSharesWrongFalsely : Prop := fairSharesRow.holds Try.pinned (OpenSpec.ofChange fairSharesWrong)

/-- 'pursebearerlaw22.FairOld': WHATEVER THE INPUT: true; the input reads as it did. -/
def fairOldSpec : ChangeSpec := { name := "fairOld", fn := fun _ => fun
  | [d1, d2] => { results := [.lit (.bool true)], args := [d1, d2] }
  | _ => none }
def fairOldRow : OpenClaim := { program := "ytapoikegoknlcaa", sum := "a0e68aad0f27ca8c34631c59a0c62446af150af931c0bf4c27dd156fccb011fa", func := "pursebearer/pursebearerlaw22.FairOld", spec := "fairOld", unfollowed := true, recurses := true, apart := false }
def FairOldSaid : Prop := fairOldRow.holds Try.pinned (OpenSpec.ofChange fairOldSpec)

/-- ITS FALSE NEIGHBOUR: 'it returns false'. Refute it at one input. -/
def fairOldWrong : ChangeSpec := { name := "fairOld", fn := fun _ => fun
  | [d1, d2] => { results := [.lit (.bool false)], args := [d1, d2] }
  | _ => none }
def FairOldWrongFalsely : Prop := fairOldRow.holds Try.pinned (OpenSpec.ofChange fairOldWrong)

/-- 'pursebearerlaw22.FairAll': WHATEVER THE INPUT: true; the input reads as it did. -/
def fairAllSpec : ChangeSpec := { name := "fairAll", fn := fun _ => fun
  | [d1, d2] => { results := [.lit (.bool true)], args := [d1, d2] }
  | _ => none }
def fairAllRow : OpenClaim := { program := "ytapoikegoknlcaa", sum := "a0e68aad0f27ca8c34631c59a0c62446af150af931c0bf4c27dd156fccb011fa", func := "pursebearer/pursebearerlaw22.FairAll", spec := "fairAll", unfollowed := true, recurses := true, apart := false }
def FairAllSaid : Prop := fairAllRow.holds Try.pinned (OpenSpec.ofChange fairAllSpec)

/-- ITS FALSE NEIGHBOUR: 'it returns false'. Refute it at one input. -/
def fairAllWrong : ChangeSpec := { name := "fairAll", fn := fun _ => fun
  | [d1, d2] => { results := [.lit (.bool false)], args := [d1, d2] }
  | _ => none }
def FairAllWrongFalsely : Prop := fairAllRow.holds Try.pinned (OpenSpec.ofChange fairAllWrong)

/-- 'pursebearerlaw22.FairPlays': WHATEVER THE INPUT: true; the input reads as it did. -/
def fairPlaysSpec : ChangeSpec := { name := "fairPlays", fn := fun _ => fun
  | [d1, d2] => { results := [.lit (.bool true)], args := [d1, d2] }
  | _ => none }
def fairPlaysRow : OpenClaim := { program := "ytapoikegoknlcaa", sum := "a0e68aad0f27ca8c34631c59a0c62446af150af931c0bf4c27dd156fccb011fa", func := "pursebearer/pursebearerlaw22.FairPlays", spec := "fairPlays", unfollowed := true, recurses := true, apart := false }
def FairPlaysSaid : Prop := fairPlaysRow.holds Try.pinned (OpenSpec.ofChange fairPlaysSpec)

/-- ITS FALSE NEIGHBOUR: 'it returns false'. Refute it at one input. -/
def fairPlaysWrong : ChangeSpec := { name := "fairPlays", fn := fun _ => fun
  | [d1, d2] => { results := [.lit (.bool false)], args := [d1, d2] }
  | _ => none }
def FairPlaysWrongFalsely : Prop := fairPlaysRow.holds Try.pinned (OpenSpec.ofChange fairPlaysWrong)

/-- 'pursebearerlaw22.FairLost': WHATEVER THE INPUT: true; the input reads as it did. -/
def fairLostSpec : ChangeSpec := { name := "fairLost", fn := fun _ => fun
  | [d1, d2] => { results := [.lit (.bool true)], args := [d1, d2] }
  | _ => none }
def fairLostRow : OpenClaim := { program := "ytapoikegoknlcaa", sum := "a0e68aad0f27ca8c34631c59a0c62446af150af931c0bf4c27dd156fccb011fa", func := "pursebearer/pursebearerlaw22.FairLost", spec := "fairLost", unfollowed := true, recurses := true, apart := false }
def FairLostSaid : Prop := fairLostRow.holds Try.pinned (OpenSpec.ofChange fairLostSpec)

/-- ITS FALSE NEIGHBOUR: 'it returns false'. Refute it at one input. -/
def fairLostWrong : ChangeSpec := { name := "fairLost", fn := fun _ => fun
  | [d1, d2] => { results := [.lit (.bool false)], args := [d1, d2] }
  | _ => none }
def FairLostWrongFalsely : Prop := fairLostRow.holds Try.pinned (OpenSpec.ofChange fairLostWrong)

/- THE SECOND FORM. 'bulk': how many values and letters a reading holds, each counted each time it is reached (what is shared counts as often as it is met; a slice's spare places count too). A statement '..UptoSaid' is the law's where the arguments, and the package variables that the reading takes, are together of bulk at most 1048576: NARROWER than '..Said'. Prove '..Said' where nothing that the law and all that it calls make is longer than what came in: it says more and counts as full. Else prove '..UptoSaid'. A law counts once. -/
mutual
def uptoBulk {H : Type} : DataW H → Nat
  | .lit (.string bytes) => bytes.length + 1
  | .lit _ => 1
  | .nil => 1
  | .ptr d => uptoBulk d + 1
  | .slice elems spare => uptoBulkAll elems + uptoBulkAll spare + 1
  | .agg parts => uptoBulkAll parts + 1
  | .iface _ d => uptoBulk d + 1
  | .map entries => uptoBulkEntries entries + 1
  | .held _ => 1
def uptoBulkAll {H : Type} : List (DataW H) → Nat
  | [] => 0
  | d :: r => uptoBulk d + uptoBulkAll r
def uptoBulkEntries {H : Type} : List (Lit × DataW H) → Nat
  | [] => 0
  | x :: r => uptoBulkEntry x + uptoBulkEntries r
def uptoBulkEntry {H : Type} : Lit × DataW H → Nat
  | (.string bytes, d) => bytes.length + uptoBulk d + 1
  | (_, d) => uptoBulk d + 1
 end
def uptoSmall : (H : Type) → List (DataW H) → Bool := fun _ ds => decide (uptoBulkAll ds ≤ 1048576)
def OpenSpec.upto (s : _root_.Go.ChangeSpec) : _root_.Go.OpenSpec := { _root_.Go.OpenSpec.ofChange s with cond := some uptoSmall }

/-- 'pursebearerlaw22.FairRounds', WHERE WHAT IT READS IS OF BULK AT MOST 1048576: true; the input reads as it did. -/
def fairRoundsUptoRow : OpenClaim := { program := "ytapoikegoknlcaa", sum := "a0e68aad0f27ca8c34631c59a0c62446af150af931c0bf4c27dd156fccb011fa", func := "pursebearer/pursebearerlaw22.FairRounds", spec := "fairRounds", unfollowed := true, recurses := true, apart := false, narrowed := true }
def FairRoundsUptoSaid : Prop := fairRoundsUptoRow.holds Try.pinned (OpenSpec.upto fairRoundsSpec)

/-- 'pursebearerlaw22.FairPriorities', WHERE WHAT IT READS IS OF BULK AT MOST 1048576: true; the input reads as it did. -/
def fairPrioritiesUptoRow : OpenClaim := { program := "ytapoikegoknlcaa", sum := "a0e68aad0f27ca8c34631c59a0c62446af150af931c0bf4c27dd156fccb011fa", func := "pursebearer/pursebearerlaw22.FairPriorities", spec := "fairPriorities", unfollowed := true, recurses := true, apart := false, narrowed := true }
def FairPrioritiesUptoSaid : Prop := fairPrioritiesUptoRow.holds Try.pinned (OpenSpec.upto fairPrioritiesSpec)

/-- 'pursebearerlaw22.FairShares', WHERE WHAT IT READS IS OF BULK AT MOST 1048576: true; the input reads as it did. -/
def fairSharesUptoRow : OpenClaim := { program := "ytapoikegoknlcaa", sum := "a0e68aad0f27ca8c34631c59a0c62446af150af931c0bf4c27dd156fccb011fa", func := "pursebearer/pursebearerlaw22.FairShares", spec := "fairShares", unfollowed := true, recurses := true, apart := false, narrowed := true }
def FairSharesUptoSaid : Prop := fairSharesUptoRow.holds Try.pinned (OpenSpec.upto fairSharesSpec)

/-- 'pursebearerlaw22.FairOld', WHERE WHAT IT READS IS OF BULK AT MOST 1048576: true; the input reads as it did. -/
def fairOldUptoRow : OpenClaim := { program := "ytapoikegoknlcaa", sum := "a0e68aad0f27ca8c34631c59a0c62446af150af931c0bf4c27dd156fccb011fa", func := "pursebearer/pursebearerlaw22.FairOld", spec := "fairOld", unfollowed := true, recurses := true, apart := false, narrowed := true }
def FairOldUptoSaid : Prop := fairOldUptoRow.holds Try.pinned (OpenSpec.upto fairOldSpec)

/-- 'pursebearerlaw22.FairAll', WHERE WHAT IT READS IS OF BULK AT MOST 1048576: true; the input reads as it did. -/
def fairAllUptoRow : OpenClaim := { program := "ytapoikegoknlcaa", sum := "a0e68aad0f27ca8c34631c59a0c62446af150af931c0bf4c27dd156fccb011fa", func := "pursebearer/pursebearerlaw22.FairAll", spec := "fairAll", unfollowed := true, recurses := true, apart := false, narrowed := true }
def FairAllUptoSaid : Prop := fairAllUptoRow.holds Try.pinned (OpenSpec.upto fairAllSpec)

/-- 'pursebearerlaw22.FairPlays', WHERE WHAT IT READS IS OF BULK AT MOST 1048576: true; the input reads as it did. -/
def fairPlaysUptoRow : OpenClaim := { program := "ytapoikegoknlcaa", sum := "a0e68aad0f27ca8c34631c59a0c62446af150af931c0bf4c27dd156fccb011fa", func := "pursebearer/pursebearerlaw22.FairPlays", spec := "fairPlays", unfollowed := true, recurses := true, apart := false, narrowed := true }
def FairPlaysUptoSaid : Prop := fairPlaysUptoRow.holds Try.pinned (OpenSpec.upto fairPlaysSpec)

/-- 'pursebearerlaw22.FairLost', WHERE WHAT IT READS IS OF BULK AT MOST 1048576: true; the input reads as it did. -/
def fairLostUptoRow : OpenClaim := { program := "ytapoikegoknlcaa", sum := "a0e68aad0f27ca8c34631c59a0c62446af150af931c0bf4c27dd156fccb011fa", func := "pursebearer/pursebearerlaw22.FairLost", spec := "fairLost", unfollowed := true, recurses := true, apart := false, narrowed := true }
def FairLostUptoSaid : Prop := fairLostUptoRow.holds Try.pinned (OpenSpec.upto fairLostSpec)

end Rows
end Go.Proofs.Ytapoikegoknlcaa
