/- Layer 21 in plain Lean: what a limit becomes. -/
import Init
namespace Go.Proofs.Ytdfigalijngekaa
structure Lim where
  low : Int
  high : Int
  lim : Int
  base : Int
  cut : Bool
  last : Int
def Lim.rise (l : Lim) (under : Int) : Int := if l.lim ≤ under ∧ l.lim < l.high then l.lim + 1 else l.lim
def Lim.fall (l : Lim) (now : Int) : Lim := if l.cut = true ∧ now < l.last + l.base then l else { l with cut := true, last := now, lim := max (l.lim * 3 / 4) l.low }
def Lim.note (l : Lim) (took : Int) (well : Bool) : Lim := if well = true ∧ (l.base = 0 ∨ took < l.base) then { l with base := took } else l
def Lim.done (l : Lim) (now under took : Int) (well : Bool) : Lim :=
  if well = true ∧ took ≤ 4 * (l.note took well).base then { l.note took well with lim := (l.note took well).rise under } else (l.note took well).fall now
def newLim (low high : Int) : Lim := ⟨low, high, low, 0, false, 0⟩
/-- What keeps the numbers small. -/
structure Lim.Ok (l : Lim) : Prop where
  l0 : 1 ≤ l.low
  l1 : l.low ≤ l.lim
  l2 : l.lim ≤ l.high
  l3 : l.high ≤ 1000
  b0 : 0 ≤ l.base
  b1 : l.base ≤ 1000
  t0 : 0 ≤ l.last
  t1 : l.last ≤ 1000000
theorem Lim.Ok.done {l : Lim} (h : l.Ok) {now under took : Int} {well : Bool} (h0 : 0 ≤ now) (h1 : now ≤ 1000000) (h2 : 1 ≤ took) (h3 : took ≤ 1000) : (l.done now under took well).Ok := by
  obtain ⟨a0, a1, a2, a3, a4, a5, a6, a7⟩ := h
  have hn : (l.note took well).low = l.low ∧ (l.note took well).high = l.high ∧ (l.note took well).lim = l.lim ∧ 0 ≤ (l.note took well).base ∧ (l.note took well).base ≤ 1000 ∧ (l.note took well).last = l.last := by
    unfold Lim.note; split <;> simp <;> omega
  obtain ⟨b0, b1, b2, b3, b4, b5⟩ := hn
  unfold Lim.done
  split
  · have : (l.note took well).rise under ≤ l.high ∧ l.low ≤ (l.note took well).rise under := by
      unfold Lim.rise; rw [b1, b2]; split <;> omega
    constructor <;> simp <;> omega
  · unfold Lim.fall
    split
    · constructor <;> omega
    · constructor <;> simp <;> omega
theorem note_facts (l : Lim) (took : Int) (well : Bool) (h : l.Ok) (h2 : 1 ≤ took) : (l.note took well).low = l.low ∧ (l.note took well).high = l.high ∧ (l.note took well).lim = l.lim ∧ (l.note took well).cut = l.cut ∧ (l.note took well).last = l.last ∧
    0 ≤ (l.note took well).base ∧ (0 < l.base → (l.note took well).base ≤ l.base) ∧ (well = true → 0 < (l.note took well).base ∧ (l.note took well).base ≤ took) ∧ (well = false → (l.note took well).base = l.base) := by
  obtain ⟨a0, a1, a2, a3, a4, a5, a6, a7⟩ := h
  unfold Lim.note
  split
  · rename_i hc
    refine ⟨rfl, rfl, rfl, rfl, rfl, ?_, ?_, ?_, ?_⟩ <;> dsimp only
    · omega
    · omega
    · intro _; omega
    · intro hw; simp [hw] at hc
  · rename_i hc
    refine ⟨rfl, rfl, rfl, rfl, rfl, ?_, ?_, ?_, ?_⟩
    · omega
    · omega
    · intro hw; simp only [hw, true_and] at hc; omega
    · intro _; rfl
theorem done_base (l : Lim) (now under took : Int) (well : Bool) : (l.done now under took well).base = (l.note took well).base := by
  unfold Lim.done
  split
  · rfl
  · unfold Lim.fall; split <;> rfl
theorem done_facts (l : Lim) (now under took : Int) (well : Bool) (h : l.Ok) (h2 : 1 ≤ took) :
    (l.done now under took well).low = l.low ∧ (l.done now under took well).high = l.high ∧ (l.done now under took well).lim ≤ l.lim + 1 ∧ 3 * l.lim ≤ 4 * (l.done now under took well).lim + 3 ∧
    (l.lim < (l.done now under took well).lim → well = true ∧ l.lim ≤ under) ∧ ((l.done now under took well).lim < l.lim → l.lim ≠ l.low) ∧
    0 ≤ (l.done now under took well).base ∧ (0 < l.base → (l.done now under took well).base ≤ l.base) ∧ (well = true → 0 < (l.done now under took well).base ∧ (l.done now under took well).base ≤ took) ∧ (well = false → (l.done now under took well).base = l.base) := by
  rw [done_base]
  obtain ⟨n1, n2, n3, _, _, n4, n5, n6, n7⟩ := note_facts l took well h h2
  obtain ⟨a0, a1, a2, a3, a4, a5, a6, a7⟩ := h
  suffices hs : (l.done now under took well).low = l.low ∧ (l.done now under took well).high = l.high ∧ (l.done now under took well).lim ≤ l.lim + 1 ∧ 3 * l.lim ≤ 4 * (l.done now under took well).lim + 3 ∧
    (l.lim < (l.done now under took well).lim → well = true ∧ l.lim ≤ under) ∧ ((l.done now under took well).lim < l.lim → l.lim ≠ l.low) from ⟨hs.1, hs.2.1, hs.2.2.1, hs.2.2.2.1, hs.2.2.2.2.1, hs.2.2.2.2.2, n4, n5, n6, n7⟩
  unfold Lim.done
  split
  · rename_i hg
    refine ⟨n1, n2, ?_, ?_, ?_, ?_⟩ <;> (unfold Lim.rise; rw [n2, n3]; dsimp only)
    · split <;> omega
    · split <;> omega
    · split <;> intro hx
      · exact ⟨hg.1, by omega⟩
      · omega
    · split <;> omega
  · unfold Lim.fall
    split
    · refine ⟨n1, n2, ?_, ?_, ?_, ?_⟩ <;> rw [n3] <;> omega
    · refine ⟨n1, n2, ?_, ?_, ?_, ?_⟩ <;> dsimp only <;> rw [n1, n3] <;> omega
theorem newLim_ok (low high : Int) (h0 : 1 ≤ low) (h1 : low ≤ high) (h2 : high ≤ 1000) : (newLim low high).Ok := by
  constructor <;> dsimp only [newLim] <;> omega
end Go.Proofs.Ytdfigalijngekaa
