/- Layer 21 in plain Lean: what a limit becomes. -/
import Init
namespace Go.Proofs.Ytklbnldkfohkpaa
structure Lim where
  low : Int
  high : Int
  lim : Int
  base : Int
  cut : Bool
  last : Int
def Lim.rise (l : Lim) (under : Int) : Int := if l.lim ≤ under ∧ l.lim < l.high then l.lim + 1 else l.lim
def Lim.fall (l : Lim) (now : Int) : Lim := if l.cut = true ∧ now < l.last + l.base then l else { l with cut := true, last := now, lim := max (l.lim * 3 / 4) l.low }
def Lim.note (l : Lim) (took : Int) (well : Bool) : Lim := if well = true ∧ (l.base = 0 ∨ took < l.base) then { l with base := took } else l
def Lim.done (l : Lim) (now under took : Int) (well : Bool) : Lim :=
  if well = true ∧ took ≤ 4 * (l.note took well).base then { l.note took well with lim := (l.note took well).rise under } else (l.note took well).fall now
def newLim (low high : Int) : Lim := ⟨low, high, low, 0, false, 0⟩
/-- What keeps the numbers small. -/
structure Lim.Ok (l : Lim) : Prop where
  l0 : 1 ≤ l.low
  l1 : l.low ≤ l.lim
  l2 : l.lim ≤ l.high
  l3 : l.high ≤ 1000
  b0 : 0 ≤ l.base
  b1 : l.base ≤ 1000
  t0 : 0 ≤ l.last
  t1 : l.last ≤ 1000000
theorem Lim.Ok.done {l : Lim} (h : l.Ok) {now under took : Int} {well : Bool} (h0 : 0 ≤ now) (h1 : now ≤ 1000000) (h2 : 1 ≤ took) (h3 : took ≤ 1000) : (l.done now under took well).Ok := by
  obtain ⟨a0, a1, a2, a3, a4, a5, a6, a7⟩ := h
  have hn : (l.note took well).low = l.low ∧ (l.note took well).high = l.high ∧ (l.note took well).lim = l.lim ∧ 0 ≤ (l.note took well).base ∧ (l.note took well).base ≤ 1000 ∧ (l.note took well).last = l.last := by
    unfold Lim.note; split <;> simp <;> omega
  obtain ⟨b0, b1, b2, b3, b4, b5⟩ := hn
  unfold Lim.done
  split
  · have : (l.note took well).rise under ≤ l.high ∧ l.low ≤ (l.note took well).rise under := by
      unfold Lim.rise; rw [b1, b2]; split <;> omega
    constructor <;> simp <;> omega
  · unfold Lim.fall
    split
    · constructor <;> omega
    · constructor <;> simp <;> omega
theorem note_facts (l : Lim) (took : Int) (well : Bool) (h : l.Ok) (h2 : 1 ≤ took) : (l.note took well).low = l.low ∧ (l.note took well).high = l.high ∧ (l.note took well).lim = l.lim ∧ (l.note took well).cut = l.cut ∧ (l.note took well).last = l.last ∧
    0 ≤ (l.note took well).base ∧ (0 < l.base → (l.note took well).base ≤ l.base) ∧ (well = true → 0 < (l.note took well).base ∧ (l.note took well).base ≤ took) ∧ (well = false → (l.note took well).base = l.base) := by
  obtain ⟨a0, a1, a2, a3, a4, a5, a6, a7⟩ := h
  unfold Lim.note
  split
  · rename_i hc
    refine ⟨rfl, rfl, rfl, rfl, rfl, ?_, ?_, ?_, ?_⟩ <;> dsimp only
    · omega
    · omega
    · intro _; omega
    · intro hw; simp [hw] at hc
  · rename_i hc
    refine ⟨rfl, rfl, rfl, rfl, rfl, ?_, ?_, ?_, ?_⟩
    · omega
    · omega
    · intro hw; simp only [hw, true_and] at hc; omega
    · intro _; rfl
theorem done_base (l : Lim) (now under took : Int) (well : Bool) : (l.done now under took well).base = (l.note took well).base := by
  unfold Lim.done
  split
  · rfl
  · unfold Lim.fall; split <;> rfl
theorem done_facts (l : Lim) (now under took : Int) (well : Bool) (h : l.Ok) (h2 : 1 ≤ took) :
    (l.done now under took well).low = l.low ∧ (l.done now under took well).high = l.high ∧ (l.done now under took well).lim ≤ l.lim + 1 ∧ 3 * l.lim ≤ 4 * (l.done now under took well).lim + 3 ∧
    (l.lim < (l.done now under took well).lim → well = true ∧ l.lim ≤ under) ∧ ((l.done now under took well).lim < l.lim → l.lim ≠ l.low) ∧
    0 ≤ (l.done now under took well).base ∧ (0 < l.base → (l.done now under took well).base ≤ l.base) ∧ (well = true → 0 < (l.done now under took well).base ∧ (l.done now under took well).base ≤ took) ∧ (well = false → (l.done now under took well).base = l.base) := by
  rw [done_base]
  obtain ⟨n1, n2, n3, _, _, n4, n5, n6, n7⟩ := note_facts l took well h h2
  obtain ⟨a0, a1, a2, a3, a4, a5, a6, a7⟩ := h
  suffices hs : (l.done now under took well).low = l.low ∧ (l.done now under took well).high = l.high ∧ (l.done now under took well).lim ≤ l.lim + 1 ∧ 3 * l.lim ≤ 4 * (l.done now under took well).lim + 3 ∧
    (l.lim < (l.done now under took well).lim → well = true ∧ l.lim ≤ under) ∧ ((l.done now under took well).lim < l.lim → l.lim ≠ l.low) from ⟨hs.1, hs.2.1, hs.2.2.1, hs.2.2.2.1, hs.2.2.2.2.1, hs.2.2.2.2.2, n4, n5, n6, n7⟩
  unfold Lim.done
  split
  · rename_i hg
    refine ⟨n1, n2, ?_, ?_, ?_, ?_⟩ <;> (unfold Lim.rise; rw [n2, n3]; dsimp only)
    · split <;> omega
    · split <;> omega
    · split <;> intro hx
      · exact ⟨hg.1, by omega⟩
      · omega
    · split <;> omega
  · unfold Lim.fall
    split
    · refine ⟨n1, n2, ?_, ?_, ?_, ?_⟩ <;> rw [n3] <;> omega
    · refine ⟨n1, n2, ?_, ?_, ?_, ?_⟩ <;> dsimp only <;> rw [n1, n3] <;> omega
theorem newLim_ok (low high : Int) (h0 : 1 ≤ low) (h1 : low ≤ high) (h2 : high ≤ 1000) : (newLim low high).Ok := by
  constructor <;> dsimp only [newLim] <;> omega
/-- A limit that has become less was cut just now, the base apart from the last time. -/
theorem done_cut (l : Lim) (now under took : Int) (well : Bool) (h : l.Ok) (h2 : 1 ≤ took) (hlt : (l.done now under took well).lim < l.lim) :
    (l.done now under took well).cut = true ∧ (l.done now under took well).last = now ∧ (l.cut = true → l.last + (l.done now under took well).base ≤ now) := by
  rw [done_base]
  obtain ⟨n1, n2, n3, n4, n5, -, -, -, -⟩ := note_facts l took well h h2
  revert hlt
  unfold Lim.done
  split
  · unfold Lim.rise; rw [n2, n3]; dsimp only; split <;> omega
  · unfold Lim.fall
    split
    · rw [n3]; omega
    · rename_i hc
      intro _
      refine ⟨rfl, rfl, fun hcut => ?_⟩
      rw [n4, n5] at hc
      simp only [hcut, true_and] at hc
      omega
/-- A cut that was is not forgotten, and the last one does not come after now. -/
theorem done_last (l : Lim) (now under took : Int) (well : Bool) (h : l.Ok) (h2 : 1 ≤ took) (hl : l.last ≤ now) : (l.cut = true → (l.done now under took well).cut = true) ∧ l.last ≤ (l.done now under took well).last ∧ (l.done now under took well).last ≤ now := by
  obtain ⟨n1, n2, n3, n4, n5, -, -, -, -⟩ := note_facts l took well h h2
  unfold Lim.done
  split
  · dsimp only; rw [n4, n5]; exact ⟨id, Int.le_refl _, hl⟩
  · unfold Lim.fall
    split
    · rw [n4, n5]; exact ⟨id, Int.le_refl _, hl⟩
    · exact ⟨fun _ => rfl, hl, Int.le_refl _⟩
/-- So many ticks later. -/
def Lim.shift (l : Lim) (k : Int) : Lim := { l with last := if l.cut = true then l.last + k else l.last }
theorem note_shift (l : Lim) (k took : Int) (well : Bool) : (l.shift k).note took well = (l.note took well).shift k := by
  by_cases hc : well = true ∧ (l.base = 0 ∨ took < l.base)
  · have h1 : (l.shift k).note took well = { (l.shift k) with base := took } := if_pos hc
    have h2 : l.note took well = { l with base := took } := if_pos hc
    rw [h1, h2]; rfl
  · have h1 : (l.shift k).note took well = l.shift k := if_neg hc
    have h2 : l.note took well = l := if_neg hc
    rw [h1, h2]
theorem done_shift (l : Lim) (k now under took : Int) (well : Bool) : (l.shift k).done (now + k) under took well = (l.done now under took well).shift k := by
  unfold Lim.done
  rw [note_shift]
  have hb : ((l.note took well).shift k).base = (l.note took well).base := rfl
  rw [hb]
  split
  · rfl
  · unfold Lim.fall
    have hc : ((l.note took well).shift k).cut = (l.note took well).cut := rfl
    rw [hb, hc]
    by_cases hcut : (l.note took well).cut = true
    · have hl : ((l.note took well).shift k).last = (l.note took well).last + k := by unfold Lim.shift; rw [if_pos hcut]
      rw [hl]
      by_cases hn : now < (l.note took well).last + (l.note took well).base
      · rw [if_pos ⟨hcut, by omega⟩, if_pos ⟨hcut, hn⟩]
      · rw [if_neg (by omega), if_neg (by simp [hn])]
        rfl
    · rw [if_neg (by simp [hcut]), if_neg (by simp [hcut])]
      rfl
theorem Lim.Ok.shift {l : Lim} (h : l.Ok) {k : Int} (h0 : 0 ≤ k) (h1 : l.last + k ≤ 1000000) : (l.shift k).Ok := by
  obtain ⟨a0, a1, a2, a3, a4, a5, a6, a7⟩ := h
  constructor <;> dsimp only [Lim.shift] <;> (try split) <;> omega
theorem good_rise (l : Lim) (t under took : Int) (h : l.Ok) (ht : took = max 1 l.base) :
    l.done t under took true = { l with base := took, lim := if l.lim ≤ under ∧ l.lim < l.high then l.lim + 1 else l.lim } := by
  have hb := h.b0
  have hn : l.note took true = { l with base := took } := by
    unfold Lim.note
    by_cases h0 : l.base = 0
    · rw [if_pos ⟨rfl, .inl h0⟩]
    · rw [if_neg (by simp only [true_and]; omega)]
      have : l.base = took := by omega
      rw [← this]
  unfold Lim.done
  rw [hn, if_pos ⟨rfl, by dsimp only; omega⟩]
  rfl
end Go.Proofs.Ytklbnldkfohkpaa
