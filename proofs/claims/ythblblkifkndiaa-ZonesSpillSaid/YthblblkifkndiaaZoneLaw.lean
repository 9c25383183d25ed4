/- Layer 11: how the laws begin; rows that are the same. -/
import Derived.Test.YthblblkifkndiaaZoneLives
namespace Go.Proofs.Ythblblkifkndiaa
open Go.RowKit
theorem zw_start {w w1 w2 : World} {ev wv : Value} {es : List En} {ws : List Int} (h1 : OwnEns w.heap.size w1 ev es) (b1 : Below w.heap.size w w1) (o1 : EndsOk es) (h2 : OwnInts w1.heap.size w2 wv ws) (b2 : Below w1.heap.size w1 w2) (o2 : WellOk ws) : ZW w w2 ev es wv ws := by
  refine ⟨⟨(h1.isIn (by have := o1.len; omega)).below b2, o1.nodup, fun e he => ?_, by have := o1.len; omega⟩, ⟨h2.isIn (fun z hz => ?_), by have := o2.len; omega⟩, b1.trans (b2.mono b1.size)⟩
  · have := o1.r e he; omega
  · have := o2.r z hz; omega
theorem same_rows {b1 b2 : Nat} {v1 v2 : Value} {s : List Int} {w1 w2 : World} (h1 : OwnInts b1 w1 v1 s) (hb : Below w1.heap.size w1 w2) (h2 : OwnInts b2 w2 v2 s) (hs : I64s s) (hl : (s.length : Int) ≤ 100) :
    Calls Try.prog 14 #[v1, v2] w2 fun e w' => e = .returned (.bool true) ∧ Upd [] w2 w' :=
  sameInts_any _ _ s _ ((h1.isIn hs).keep (Upd.ofBelow hb) (by simp)) (h2.isIn hs) (by omega)
end Go.Proofs.Ythblblkifkndiaa
