/- Layer 11: the walk of Among. -/
import Derived.Test.YthblblkifkndiaaZoneHome
import Derived.Test.YthblblkifkndiaaAnyInv
namespace Go.Proofs.Ythblblkifkndiaa
open Go.RowKit
structure FW (w W : World) (sv : Value) (es : List En) (zb fb sb M : Nat) (z : Int) (s : Bool) (ws : List Int) : Prop where
  bel : Below w.heap.size w W
  cz : W.cell? ⟨zb, 0, none⟩ = some (.int .i64 z)
  cf : W.cell? ⟨fb, 0, none⟩ = some (.map (some M))
  cs : W.cell? ⟨sb, 0, none⟩ = some (.bool s)
  hm : MapU W M (setOf ws)
  he : EnsIn W sv es
theorem FW.next {w W W' : World} {sv : Value} {es : List En} {zb fb sb M : Nat} {z : Int} {s : Bool} {ws : List Int} (h : FW w W sv es zb fb sb M z s ws) (hb : Below W.heap.size W W') : FW w W' sv es zb fb sb M z s ws :=
  ⟨h.bel.trans (hb.mono h.bel.size), (Upd.ofBelow hb).cell h.cz (by simp), (Upd.ofBelow hb).cell h.cf (by simp), (Upd.ofBelow hb).cell h.cs (by simp), h.hm.keep (Upd.ofBelow hb) (by simp), h.he.below hb⟩
def IdsPost (es : List En) (f : En → Bool) (w : World) (e : Ending) (w' : World) : Prop := ∃ v s, e = .returned v ∧ IsIds es f s ∧ OwnInts w.heap.size w' v s ∧ Below w.heap.size w w'
/-- What stands in the slots of Among's two captured variables' statement, by what of it is listed. -/
structure RI (W : World) (ws : List Int) (v0 v2 : Value) (z d hm : Int) (L : Nat → Bool) (u11 u12 u20 u21 u22 u23 u24 u25 u26 u27 : Value) (w : World) : Prop where
  up : Upd [] W w
  f20 : L 0 = true → u20 = v2
  f21 : L 1 = true → ∃ M, u21 = .map (some M) ∧ MapU w M (setOf ws)
  f22 : L 2 = true → u22 = .int .i64 d
  f23 : L 3 = true → u23 = v0
  f24 : L 4 = true → u24 = v2
  f25 : L 5 = true → u25 = .int .i64 z
  f26 : L 6 = true → u26 = .int .i64 hm
  f27 : L 7 = true → u27 = .bool (decide (d < hm))
  f11 : L 8 = true → ∃ fb x, u11 = .pointer (some ⟨fb, 0, none⟩) ∧ W.heap.size ≤ fb ∧ BlockAt w fb 38 [x] ∧ (L 10 = true → x = u21)
  f12 : L 9 = true → ∃ sb x, u12 = .pointer (some ⟨sb, 0, none⟩) ∧ W.heap.size ≤ sb ∧ BlockAt w sb 4 [x] ∧ (L 11 = true → x = u27)
  c10 : L 10 = true → L 1 = true ∧ L 8 = true
  c11 : L 11 = true → L 9 = true ∧ L 7 = true
theorem RI.next {W : World} {ws : List Int} {v0 v2 : Value} {z d hm : Int} {L : Nat → Bool} {u11 u12 u20 u21 u22 u23 u24 u25 u26 u27 : Value} {w w' : World} (h : RI W ws v0 v2 z d hm L u11 u12 u20 u21 u22 u23 u24 u25 u26 u27 w) (u : Upd [] w w') : RI W ws v0 v2 z d hm L u11 u12 u20 u21 u22 u23 u24 u25 u26 u27 w' :=
  ⟨h.up.trans u, h.f20, fun h1 => by obtain ⟨M, e, hm⟩ := h.f21 h1; exact ⟨M, e, hm.keep u (by simp)⟩, h.f22, h.f23, h.f24, h.f25, h.f26, h.f27,
   fun h1 => by obtain ⟨fb, x, e, h2, h3, h4⟩ := h.f11 h1; exact ⟨fb, x, e, h2, h3.keep u (by simp), h4⟩, fun h1 => by obtain ⟨fb, x, e, h2, h3, h4⟩ := h.f12 h1; exact ⟨fb, x, e, h2, h3.keep u (by simp), h4⟩, h.c10, h.c11⟩
theorem RI.s0 {W : World} {ws : List Int} {v0 v2 : Value} {z d hm : Int} {L : Nat → Bool} {u11 u12 u20 u21 u22 u23 u24 u25 u26 u27 : Value} {w : World} (h : RI W ws v0 v2 z d hm L u11 u12 u20 u21 u22 u23 u24 u25 u26 u27 w) {x : Value} (hx : x = v2) : RI W ws v0 v2 z d hm (fun j => decide (j = 0) || L j) u11 u12 x u21 u22 u23 u24 u25 u26 u27 w := by
  refine ⟨h.up, fun _ => hx, fun h1 => h.f21 (by simpa using h1), fun h1 => h.f22 (by simpa using h1), fun h1 => h.f23 (by simpa using h1), fun h1 => h.f24 (by simpa using h1), fun h1 => h.f25 (by simpa using h1), fun h1 => h.f26 (by simpa using h1), fun h1 => h.f27 (by simpa using h1), fun h1 => by obtain ⟨fb, y, e, h2, h3, h4⟩ := h.f11 (by simpa using h1); exact ⟨fb, y, e, h2, h3, fun h10 => h4 (by simpa using h10)⟩, fun h1 => by obtain ⟨fb, y, e, h2, h3, h4⟩ := h.f12 (by simpa using h1); exact ⟨fb, y, e, h2, h3, fun h10 => h4 (by simpa using h10)⟩, fun h1 => by have := h.c10 (by simpa using h1); simp [this.1, this.2], fun h1 => by have := h.c11 (by simpa using h1); simp [this.1, this.2]⟩
theorem RI.s1 {W : World} {ws : List Int} {v0 v2 : Value} {z d hm : Int} {L : Nat → Bool} {u11 u12 u20 u21 u22 u23 u24 u25 u26 u27 : Value} {w : World} (h : RI W ws v0 v2 z d hm L u11 u12 u20 u21 u22 u23 u24 u25 u26 u27 w) (hL : L 1 = false) {x : Value} (hx : ∃ M, x = .map (some M) ∧ MapU w M (setOf ws)) : RI W ws v0 v2 z d hm (fun j => decide (j = 1) || L j) u11 u12 u20 x u22 u23 u24 u25 u26 u27 w := by
  refine ⟨h.up, fun h1 => h.f20 (by simpa using h1), fun _ => hx, fun h1 => h.f22 (by simpa using h1), fun h1 => h.f23 (by simpa using h1), fun h1 => h.f24 (by simpa using h1), fun h1 => h.f25 (by simpa using h1), fun h1 => h.f26 (by simpa using h1), fun h1 => h.f27 (by simpa using h1), fun h1 => by obtain ⟨fb, y, e, h2, h3, h4⟩ := h.f11 (by simpa using h1); exact ⟨fb, y, e, h2, h3, fun h10 => by have := (h.c10 (by simpa using h10)).1; rw [hL] at this; cases this⟩, fun h1 => by obtain ⟨fb, y, e, h2, h3, h4⟩ := h.f12 (by simpa using h1); exact ⟨fb, y, e, h2, h3, fun h10 => h4 (by simpa using h10)⟩, fun h1 => by have := h.c10 (by simpa using h1); simp [this.1, this.2], fun h1 => by have := h.c11 (by simpa using h1); simp [this.1, this.2]⟩
theorem RI.s2 {W : World} {ws : List Int} {v0 v2 : Value} {z d hm : Int} {L : Nat → Bool} {u11 u12 u20 u21 u22 u23 u24 u25 u26 u27 : Value} {w : World} (h : RI W ws v0 v2 z d hm L u11 u12 u20 u21 u22 u23 u24 u25 u26 u27 w) {x : Value} (hx : x = .int .i64 d) : RI W ws v0 v2 z d hm (fun j => decide (j = 2) || L j) u11 u12 u20 u21 x u23 u24 u25 u26 u27 w := by
  refine ⟨h.up, fun h1 => h.f20 (by simpa using h1), fun h1 => h.f21 (by simpa using h1), fun _ => hx, fun h1 => h.f23 (by simpa using h1), fun h1 => h.f24 (by simpa using h1), fun h1 => h.f25 (by simpa using h1), fun h1 => h.f26 (by simpa using h1), fun h1 => h.f27 (by simpa using h1), fun h1 => by obtain ⟨fb, y, e, h2, h3, h4⟩ := h.f11 (by simpa using h1); exact ⟨fb, y, e, h2, h3, fun h10 => h4 (by simpa using h10)⟩, fun h1 => by obtain ⟨fb, y, e, h2, h3, h4⟩ := h.f12 (by simpa using h1); exact ⟨fb, y, e, h2, h3, fun h10 => h4 (by simpa using h10)⟩, fun h1 => by have := h.c10 (by simpa using h1); simp [this.1, this.2], fun h1 => by have := h.c11 (by simpa using h1); simp [this.1, this.2]⟩
theorem RI.s3 {W : World} {ws : List Int} {v0 v2 : Value} {z d hm : Int} {L : Nat → Bool} {u11 u12 u20 u21 u22 u23 u24 u25 u26 u27 : Value} {w : World} (h : RI W ws v0 v2 z d hm L u11 u12 u20 u21 u22 u23 u24 u25 u26 u27 w) {x : Value} (hx : x = v0) : RI W ws v0 v2 z d hm (fun j => decide (j = 3) || L j) u11 u12 u20 u21 u22 x u24 u25 u26 u27 w := by
  refine ⟨h.up, fun h1 => h.f20 (by simpa using h1), fun h1 => h.f21 (by simpa using h1), fun h1 => h.f22 (by simpa using h1), fun _ => hx, fun h1 => h.f24 (by simpa using h1), fun h1 => h.f25 (by simpa using h1), fun h1 => h.f26 (by simpa using h1), fun h1 => h.f27 (by simpa using h1), fun h1 => by obtain ⟨fb, y, e, h2, h3, h4⟩ := h.f11 (by simpa using h1); exact ⟨fb, y, e, h2, h3, fun h10 => h4 (by simpa using h10)⟩, fun h1 => by obtain ⟨fb, y, e, h2, h3, h4⟩ := h.f12 (by simpa using h1); exact ⟨fb, y, e, h2, h3, fun h10 => h4 (by simpa using h10)⟩, fun h1 => by have := h.c10 (by simpa using h1); simp [this.1, this.2], fun h1 => by have := h.c11 (by simpa using h1); simp [this.1, this.2]⟩
theorem RI.s4 {W : World} {ws : List Int} {v0 v2 : Value} {z d hm : Int} {L : Nat → Bool} {u11 u12 u20 u21 u22 u23 u24 u25 u26 u27 : Value} {w : World} (h : RI W ws v0 v2 z d hm L u11 u12 u20 u21 u22 u23 u24 u25 u26 u27 w) {x : Value} (hx : x = v2) : RI W ws v0 v2 z d hm (fun j => decide (j = 4) || L j) u11 u12 u20 u21 u22 u23 x u25 u26 u27 w := by
  refine ⟨h.up, fun h1 => h.f20 (by simpa using h1), fun h1 => h.f21 (by simpa using h1), fun h1 => h.f22 (by simpa using h1), fun h1 => h.f23 (by simpa using h1), fun _ => hx, fun h1 => h.f25 (by simpa using h1), fun h1 => h.f26 (by simpa using h1), fun h1 => h.f27 (by simpa using h1), fun h1 => by obtain ⟨fb, y, e, h2, h3, h4⟩ := h.f11 (by simpa using h1); exact ⟨fb, y, e, h2, h3, fun h10 => h4 (by simpa using h10)⟩, fun h1 => by obtain ⟨fb, y, e, h2, h3, h4⟩ := h.f12 (by simpa using h1); exact ⟨fb, y, e, h2, h3, fun h10 => h4 (by simpa using h10)⟩, fun h1 => by have := h.c10 (by simpa using h1); simp [this.1, this.2], fun h1 => by have := h.c11 (by simpa using h1); simp [this.1, this.2]⟩
theorem RI.s5 {W : World} {ws : List Int} {v0 v2 : Value} {z d hm : Int} {L : Nat → Bool} {u11 u12 u20 u21 u22 u23 u24 u25 u26 u27 : Value} {w : World} (h : RI W ws v0 v2 z d hm L u11 u12 u20 u21 u22 u23 u24 u25 u26 u27 w) {x : Value} (hx : x = .int .i64 z) : RI W ws v0 v2 z d hm (fun j => decide (j = 5) || L j) u11 u12 u20 u21 u22 u23 u24 x u26 u27 w := by
  refine ⟨h.up, fun h1 => h.f20 (by simpa using h1), fun h1 => h.f21 (by simpa using h1), fun h1 => h.f22 (by simpa using h1), fun h1 => h.f23 (by simpa using h1), fun h1 => h.f24 (by simpa using h1), fun _ => hx, fun h1 => h.f26 (by simpa using h1), fun h1 => h.f27 (by simpa using h1), fun h1 => by obtain ⟨fb, y, e, h2, h3, h4⟩ := h.f11 (by simpa using h1); exact ⟨fb, y, e, h2, h3, fun h10 => h4 (by simpa using h10)⟩, fun h1 => by obtain ⟨fb, y, e, h2, h3, h4⟩ := h.f12 (by simpa using h1); exact ⟨fb, y, e, h2, h3, fun h10 => h4 (by simpa using h10)⟩, fun h1 => by have := h.c10 (by simpa using h1); simp [this.1, this.2], fun h1 => by have := h.c11 (by simpa using h1); simp [this.1, this.2]⟩
theorem RI.s6 {W : World} {ws : List Int} {v0 v2 : Value} {z d hm : Int} {L : Nat → Bool} {u11 u12 u20 u21 u22 u23 u24 u25 u26 u27 : Value} {w : World} (h : RI W ws v0 v2 z d hm L u11 u12 u20 u21 u22 u23 u24 u25 u26 u27 w) {x : Value} (hx : x = .int .i64 hm) : RI W ws v0 v2 z d hm (fun j => decide (j = 6) || L j) u11 u12 u20 u21 u22 u23 u24 u25 x u27 w := by
  refine ⟨h.up, fun h1 => h.f20 (by simpa using h1), fun h1 => h.f21 (by simpa using h1), fun h1 => h.f22 (by simpa using h1), fun h1 => h.f23 (by simpa using h1), fun h1 => h.f24 (by simpa using h1), fun h1 => h.f25 (by simpa using h1), fun _ => hx, fun h1 => h.f27 (by simpa using h1), fun h1 => by obtain ⟨fb, y, e, h2, h3, h4⟩ := h.f11 (by simpa using h1); exact ⟨fb, y, e, h2, h3, fun h10 => h4 (by simpa using h10)⟩, fun h1 => by obtain ⟨fb, y, e, h2, h3, h4⟩ := h.f12 (by simpa using h1); exact ⟨fb, y, e, h2, h3, fun h10 => h4 (by simpa using h10)⟩, fun h1 => by have := h.c10 (by simpa using h1); simp [this.1, this.2], fun h1 => by have := h.c11 (by simpa using h1); simp [this.1, this.2]⟩
theorem RI.s7 {W : World} {ws : List Int} {v0 v2 : Value} {z d hm : Int} {L : Nat → Bool} {u11 u12 u20 u21 u22 u23 u24 u25 u26 u27 : Value} {w : World} (h : RI W ws v0 v2 z d hm L u11 u12 u20 u21 u22 u23 u24 u25 u26 u27 w) (hL : L 7 = false) {x : Value} (hx : x = .bool (decide (d < hm))) : RI W ws v0 v2 z d hm (fun j => decide (j = 7) || L j) u11 u12 u20 u21 u22 u23 u24 u25 u26 x w := by
  refine ⟨h.up, fun h1 => h.f20 (by simpa using h1), fun h1 => h.f21 (by simpa using h1), fun h1 => h.f22 (by simpa using h1), fun h1 => h.f23 (by simpa using h1), fun h1 => h.f24 (by simpa using h1), fun h1 => h.f25 (by simpa using h1), fun h1 => h.f26 (by simpa using h1), fun _ => hx, fun h1 => by obtain ⟨fb, y, e, h2, h3, h4⟩ := h.f11 (by simpa using h1); exact ⟨fb, y, e, h2, h3, fun h10 => h4 (by simpa using h10)⟩, fun h1 => by obtain ⟨fb, y, e, h2, h3, h4⟩ := h.f12 (by simpa using h1); exact ⟨fb, y, e, h2, h3, fun h10 => by have := (h.c11 (by simpa using h10)).2; rw [hL] at this; cases this⟩, fun h1 => by have := h.c10 (by simpa using h1); simp [this.1, this.2], fun h1 => by have := h.c11 (by simpa using h1); simp [this.1, this.2]⟩
theorem RI.s8 {W : World} {ws : List Int} {v0 v2 : Value} {z d hm : Int} {L : Nat → Bool} {u11 u12 u20 u21 u22 u23 u24 u25 u26 u27 : Value} {w : World} (h : RI W ws v0 v2 z d hm L u11 u12 u20 u21 u22 u23 u24 u25 u26 u27 w) (hL : L 8 = false) {x : Value} (hx : ∃ fb y, x = .pointer (some ⟨fb, 0, none⟩) ∧ W.heap.size ≤ fb ∧ BlockAt w fb 38 [y]) : RI W ws v0 v2 z d hm (fun j => decide (j = 8) || L j) x u12 u20 u21 u22 u23 u24 u25 u26 u27 w := by
  refine ⟨h.up, fun h1 => h.f20 (by simpa using h1), fun h1 => h.f21 (by simpa using h1), fun h1 => h.f22 (by simpa using h1), fun h1 => h.f23 (by simpa using h1), fun h1 => h.f24 (by simpa using h1), fun h1 => h.f25 (by simpa using h1), fun h1 => h.f26 (by simpa using h1), fun h1 => h.f27 (by simpa using h1), fun _ => by obtain ⟨fb, y, e, h2, h3⟩ := hx; exact ⟨fb, y, e, h2, h3, fun h10 => by have := (h.c10 (by simpa using h10)).2; rw [hL] at this; cases this⟩, fun h1 => by obtain ⟨fb, y, e, h2, h3, h4⟩ := h.f12 (by simpa using h1); exact ⟨fb, y, e, h2, h3, fun h10 => h4 (by simpa using h10)⟩, fun h1 => by have := h.c10 (by simpa using h1); simp [this.1, this.2], fun h1 => by have := h.c11 (by simpa using h1); simp [this.1, this.2]⟩
theorem RI.s9 {W : World} {ws : List Int} {v0 v2 : Value} {z d hm : Int} {L : Nat → Bool} {u11 u12 u20 u21 u22 u23 u24 u25 u26 u27 : Value} {w : World} (h : RI W ws v0 v2 z d hm L u11 u12 u20 u21 u22 u23 u24 u25 u26 u27 w) (hL : L 9 = false) {x : Value} (hx : ∃ sb y, x = .pointer (some ⟨sb, 0, none⟩) ∧ W.heap.size ≤ sb ∧ BlockAt w sb 4 [y]) : RI W ws v0 v2 z d hm (fun j => decide (j = 9) || L j) u11 x u20 u21 u22 u23 u24 u25 u26 u27 w := by
  refine ⟨h.up, fun h1 => h.f20 (by simpa using h1), fun h1 => h.f21 (by simpa using h1), fun h1 => h.f22 (by simpa using h1), fun h1 => h.f23 (by simpa using h1), fun h1 => h.f24 (by simpa using h1), fun h1 => h.f25 (by simpa using h1), fun h1 => h.f26 (by simpa using h1), fun h1 => h.f27 (by simpa using h1), fun h1 => by obtain ⟨fb, y, e, h2, h3, h4⟩ := h.f11 (by simpa using h1); exact ⟨fb, y, e, h2, h3, fun h10 => h4 (by simpa using h10)⟩, fun _ => by obtain ⟨fb, y, e, h2, h3⟩ := hx; exact ⟨fb, y, e, h2, h3, fun h10 => by have := (h.c11 (by simpa using h10)).1; rw [hL] at this; cases this⟩, fun h1 => by have := h.c10 (by simpa using h1); simp [this.1, this.2], fun h1 => by have := h.c11 (by simpa using h1); simp [this.1, this.2]⟩
theorem RI.s10 {W : World} {ws : List Int} {v0 v2 : Value} {z d hm : Int} {L : Nat → Bool} {u11 u12 u20 u21 u22 u23 u24 u25 u26 u27 : Value} {w : World} (h : RI W ws v0 v2 z d hm L u11 u12 u20 u21 u22 u23 u24 u25 u26 u27 w) (h8 : L 8 = true) (h1 : L 1 = true) {fb : Nat} (hfb : u11 = .pointer (some ⟨fb, 0, none⟩)) : RI W ws v0 v2 z d hm (fun j => decide (j = 10) || L j) u11 u12 u20 u21 u22 u23 u24 u25 u26 u27 (w.setCell ⟨fb, 0, none⟩ u21) := by
  obtain ⟨fb', y, e, h2, h3, -⟩ := h.f11 h8
  rw [hfb] at e
  cases e
  obtain ⟨M, e1, hM⟩ := h.f21 h1
  have u : Upd [fb] w (w.setCell ⟨fb, 0, none⟩ u21) := Upd.setCell w ⟨fb, 0, none⟩ _
  have hne : M ≠ fb := fun e => by
    obtain ⟨es, c, hat, -⟩ := hM.is
    rw [e] at hat
    have := hat.symm.trans h3
    cases this
  refine ⟨h.up.trans' u (fun i hi => by simp at hi; subst hi; exact .inr h2), fun h1 => h.f20 (by simpa using h1), fun _ => ⟨M, e1, hM.keep u (by simpa using hne)⟩, fun h1 => h.f22 (by simpa using h1), fun h1 => h.f23 (by simpa using h1), fun h1 => h.f24 (by simpa using h1), fun h1 => h.f25 (by simpa using h1), fun h1 => h.f26 (by simpa using h1), fun h1 => h.f27 (by simpa using h1), fun _ => ⟨fb, u21, hfb, h2, h3.set 0 _, fun _ => rfl⟩, fun h1 => ?_, fun _ => by simp [h8, h1], fun h1 => by have := h.c11 (by simpa using h1); simp [this.1, this.2]⟩
  obtain ⟨sb, x, e2, g2, g3, g4⟩ := h.f12 (by simpa using h1)
  refine ⟨sb, x, e2, g2, g3.keep u (fun hh => ?_), fun h10 => g4 (by simpa using h10)⟩
  simp at hh
  subst hh
  have := g3.symm.trans h3
  simp at this
theorem RI.s11 {W : World} {ws : List Int} {v0 v2 : Value} {z d hm : Int} {L : Nat → Bool} {u11 u12 u20 u21 u22 u23 u24 u25 u26 u27 : Value} {w : World} (h : RI W ws v0 v2 z d hm L u11 u12 u20 u21 u22 u23 u24 u25 u26 u27 w) (h9 : L 9 = true) (h7 : L 7 = true) {sb : Nat} (hsb : u12 = .pointer (some ⟨sb, 0, none⟩)) : RI W ws v0 v2 z d hm (fun j => decide (j = 11) || L j) u11 u12 u20 u21 u22 u23 u24 u25 u26 u27 (w.setCell ⟨sb, 0, none⟩ u27) := by
  obtain ⟨sb', y, e, h2, h3, -⟩ := h.f12 h9
  rw [hsb] at e
  cases e
  have u : Upd [sb] w (w.setCell ⟨sb, 0, none⟩ u27) := Upd.setCell w ⟨sb, 0, none⟩ _
  refine ⟨h.up.trans' u (fun i hi => by simp at hi; subst hi; exact .inr h2), fun h1 => h.f20 (by simpa using h1), fun h1 => ?_, fun h1 => h.f22 (by simpa using h1), fun h1 => h.f23 (by simpa using h1), fun h1 => h.f24 (by simpa using h1), fun h1 => h.f25 (by simpa using h1), fun h1 => h.f26 (by simpa using h1), fun h1 => h.f27 (by simpa using h1), fun h1 => ?_, fun _ => ⟨sb, u27, hsb, h2, h3.set 0 _, fun _ => rfl⟩, fun h1 => by have := h.c10 (by simpa using h1); simp [this.1, this.2], fun _ => by simp [h9, h7]⟩
  · obtain ⟨M, e1, hM⟩ := h.f21 (by simpa using h1)
    refine ⟨M, e1, hM.keep u (fun hh => ?_)⟩
    simp at hh
    subst hh
    obtain ⟨es, c, hat, -⟩ := hM.is
    have := hat.symm.trans h3
    cases this
  · obtain ⟨fb, x, e2, g2, g3, g4⟩ := h.f11 (by simpa using h1)
    refine ⟨fb, x, e2, g2, g3.keep u (fun hh => ?_), fun h10 => g4 (by simpa using h10)⟩
    simp at hh
    subst hh
    have := g3.symm.trans h3
    simp at this
def AInv (T : Value → Value → Value → Value → Value → Value → Value → Value → Value → Value → Act) (W : World) (ws : List Int) (v0 v2 : Value) (z d hm : Int) (L : Nat → Bool) (a : Act) (w : World) : Prop := ∃ u11 u12 u20 u21 u22 u23 u24 u25 u26 u27, a = T u11 u12 u20 u21 u22 u23 u24 u25 u26 u27 ∧ RI W ws v0 v2 z d hm L u11 u12 u20 u21 u22 u23 u24 u25 u26 u27 w
set_option maxRecDepth 100000 in
set_option maxHeartbeats 2000000 in
theorem amongs_any (sv v : Value) (es : List En) (ws : List Int) (z p d : Int) (w : World) (he : EnsIn w sv es) (hw : IntsIn w v ws) (hl : (ws.length : Int) ≤ 100000) (p0 : 0 ≤ p) (p1 : p ≤ 1000) :
    Calls Try.prog 15 #[sv, v, .int .i64 z, .int .i64 p, .int .i64 d] w (IdsPost es (fitOf es ws z p d) w) := by
  obtain ⟨a0, n0, c0, rfl⟩ := he.shape
  obtain ⟨a2, n2, c2, rfl⟩ : ∃ a n c, v = .slice a n c := by
    obtain ⟨a, c, hv, -⟩ := hw
    exact ⟨a, _, c, hv⟩
  have uz := Upd.alloc [] w (.cells #[.int .i64 z] 3)
  have cz := (BlockAt.new w 3 [.int .i64 z]).cell 0 _ rfl
  have CP := Lib.hid (panic_any (.slice a0 n0 c0) (.slice a2 n2 c2) es ws p _ (he.keep uz (by simp)) (hw.keep uz (by simp)) hl p0 p1)
  have HE := Lib.hid (And.intro (he.keep uz (by simp)) (And.intro (hw.keep uz (by simp)) (And.intro hl (And.intro cz (uz.below (B := w.heap.size) (Nat.le_refl _) (by simp))))))
  obtain ⟨B, hB⟩ : ∃ B, panicOf es ws p = B := ⟨_, rfl⟩
  have HBB := Lib.hid hB
  rw [hB] at CP
  clear he hw uz cz hB p0 p1 hl
  go_enter Try.func15, Try.ntmps15
  go_wp2_with fail
  refine CP.out.mono ?_
  rintro e W ⟨rfl, hb⟩
  have hsz := hb.size
  have H1 : Hid (EnsIn W (.slice a0 n0 c0) es ∧ IntsIn W (.slice a2 n2 c2) ws ∧ (ws.length : Int) ≤ 100000 ∧ W.cell? ⟨w.heap.size, 0, none⟩ = some (.int .i64 z) ∧ Below w.heap.size w W) := Lib.hid
    ⟨HE.out.1.below hb, HE.out.2.1.keep (Upd.ofBelow hb) (by simp), HE.out.2.2.1, (Upd.ofBelow hb).cell HE.out.2.2.2.1 (by simp), HE.out.2.2.2.2.trans (hb.mono HE.out.2.2.2.2.size)⟩
  clear hb hsz HE CP
  cases B with
  | true =>
    go_wp2_with fail
    refine (each_any _ _ W ⟨_, _, _, rfl⟩ ⟨_, _, rfl⟩).mono ?_
    rintro e w2 ⟨rfl, rfl⟩
    have CI := Lib.hid (ids_any _ es (fun _ => true) _ (seq_of (k := 30) (caps := #[]) H1.out.1 (enters_of Try.func30 (by kernel_rfl) rfl) (fun x W1 hb => ask_all x W1)))
    go_wp2_with fail
    refine CI.out.mono ?_
    rintro e w3 ⟨u, s, rfl, hs, hown, hb3⟩
    have hu2 := each_two W (.slice a0 n0 c0) (.func (.func 30) #[] #[])
    have hb4 : Below w.heap.size w w3 := H1.out.2.2.2.2.trans (((hu2.below (B := W.heap.size) (Nat.le_refl _) (by simp)).trans (hb3.mono hu2.size)).mono H1.out.2.2.2.2.size)
    have hF : IdsPost es (fitOf es ws z p d) w (.returned u) w3 := ⟨u, s, rfl, by rw [fit_panic HBB.out]; exact hs, ownsRow_mono hown (by have := H1.out.2.2.2.2.size; have := hu2.size; omega), hb4⟩
    have HF := Lib.hid hF
    clear hs hown hb3 hb4 hF hu2 CI
    go_wp2_with fail
    go_ret
    exact HF.out
  | false =>
    have cz := H1.out.2.2.2.1
    have CA := Lib.hid (fun wx (hu : Upd [] W wx) => among_any (.slice a2 n2 c2) ws wx (H1.out.2.1.keep hu (by simp)) H1.out.2.2.1)
    have CH := Lib.hid (fun wx (hu : Upd [] W wx) => home_any (.slice a0 n0 c0) (.slice a2 n2 c2) es ws z wx (H1.out.1.keep hu (by simp)) (H1.out.2.1.keep hu (by simp)) H1.out.2.2.1)
    obtain ⟨hm, hhm⟩ : ∃ hm, homeOf es ws z = hm := ⟨_, rfl⟩
    rw [hhm] at CH
    have HM := Lib.hid hhm
    clear hhm
    go_upto_region 3 with fail
    refine region_inv (AInv (fun u11 u12 u20 u21 u22 u23 u24 u25 u26 u27 => { tmps := #[.slice a0 n0 c0, .slice a2 n2 c2, .int .i64 z, .int .i64 p, .int .i64 d, undef, undef, .pointer (some ⟨w.heap.size, 0, none⟩), undef, undef, .slice none 0 0, u11, u12, .slice a0 n0 c0, .slice a2 n2 c2, .int .i64 p, .bool false, undef, undef, undef, u20, u21, u22, u23, u24, u25, u26, u27, undef, undef, undef, undef], defers := [] }) W ws (.slice a0 n0 c0) (.slice a2 n2 c2) z d hm) (by kernel_rfl) ?_ ?_ ?_ ?_
    · kernel_rfl
    · exact ⟨undef, undef, undef, undef, undef, undef, undef, undef, undef, undef, rfl, Upd.drew [] W, by simp, by simp, by simp, by simp, by simp, by simp, by simp, by simp, by simp, by simp, by simp, by simp⟩
    · rintro L a w1 i o ho hL hall ⟨u11, u12, u20, u21, u22, u23, u24, u25, u26, u27, rfl, H⟩
      rcases (show i = 0 ∨ i = 1 ∨ i = 2 ∨ i = 3 ∨ i = 4 ∨ i = 5 ∨ i = 6 ∨ i = 7 ∨ i = 8 ∨ i = 9 ∨ i = 10 ∨ i = 11 ∨ 12 ≤ i by omega) with rfl | rfl | rfl | rfl | rfl | rfl | rfl | rfl | rfl | rfl | rfl | rfl | h
      · cases ho
        refine ⟨rfl, ?_⟩
        go_simp
        exact ⟨_, _, _, _, _, _, _, _, _, _, rfl, H.s0 rfl⟩
      · cases ho
        refine ⟨rfl, ?_⟩
        have h0 := H.f20 (hall ⟨0, .data⟩ (by simp) rfl)
        subst h0
        go_simp
        refine (CA.out w1 H.up).mono ?_
        rintro e w2 ⟨rfl, hm2, hu2⟩
        exact ⟨_, _, _, _, _, _, _, _, _, _, rfl, (H.next hu2).s1 hL ⟨_, rfl, hm2⟩⟩
      · cases ho
        refine ⟨rfl, ?_⟩
        go_simp
        exact ⟨_, _, _, _, _, _, _, _, _, _, rfl, H.s2 rfl⟩
      · cases ho
        refine ⟨rfl, ?_⟩
        go_simp
        exact ⟨_, _, _, _, _, _, _, _, _, _, rfl, H.s3 rfl⟩
      · cases ho
        refine ⟨rfl, ?_⟩
        go_simp
        exact ⟨_, _, _, _, _, _, _, _, _, _, rfl, H.s4 rfl⟩
      · cases ho
        refine ⟨rfl, ?_⟩
        have c1 := H.up.cell cz (by simp)
        go_simp
        exact ⟨_, _, _, _, _, _, _, _, _, _, rfl, H.s5 rfl⟩
      · cases ho
        refine ⟨rfl, ?_⟩
        have h3 := H.f23 (hall ⟨3, .data⟩ (by simp) rfl)
        have h4 := H.f24 (hall ⟨4, .data⟩ (by simp) rfl)
        have h5 := H.f25 (hall ⟨5, .data⟩ (by simp) rfl)
        subst h3 h4 h5
        go_simp
        refine (CH.out w1 H.up).mono ?_
        rintro e w2 ⟨rfl, hb2⟩
        exact ⟨_, _, _, _, _, _, _, _, _, _, rfl, (H.next (Upd.ofBelow hb2)).s6 rfl⟩
      · cases ho
        refine ⟨rfl, ?_⟩
        have h2 := H.f22 (hall ⟨2, .data⟩ (by simp) rfl)
        have h6 := H.f26 (hall ⟨6, .data⟩ (by simp) rfl)
        subst h2 h6
        go_simp
        exact ⟨_, _, _, _, _, _, _, _, _, _, rfl, H.s7 hL rfl⟩
      · cases ho
        refine ⟨rfl, ?_⟩
        go_simp
        exact ⟨_, _, _, _, _, _, _, _, _, _, rfl, (H.next (Upd.alloc [] w1 _)).s8 hL ⟨w1.heap.size, _, rfl, H.up.size, BlockAt.new w1 38 [_]⟩⟩
      · cases ho
        refine ⟨rfl, ?_⟩
        go_simp
        exact ⟨_, _, _, _, _, _, _, _, _, _, rfl, (H.next (Upd.alloc [] w1 _)).s9 hL ⟨w1.heap.size, _, rfl, H.up.size, BlockAt.new w1 4 [_]⟩⟩
      · cases ho
        refine ⟨rfl, ?_⟩
        have l8 := (hall ⟨8, .data⟩ (by simp) rfl)
        have l1 := (hall ⟨1, .data⟩ (by simp) rfl)
        obtain ⟨fb, x, e1, -, hb, -⟩ := H.f11 l8
        obtain ⟨M, e2, -⟩ := H.f21 l1
        have hs := H.s10 l8 l1 e1
        subst e1 e2
        have c1 := hb.cell 0 _ rfl
        have f1 := hb.free 0
        go_simp
        exact ⟨_, _, _, _, _, _, _, _, _, _, rfl, hs⟩
      · cases ho
        refine ⟨rfl, ?_⟩
        have l9 := (hall ⟨9, .data⟩ (by simp) rfl)
        have l7 := (hall ⟨7, .data⟩ (by simp) rfl)
        obtain ⟨sb, x, e1, -, hb, -⟩ := H.f12 l9
        have e2 := H.f27 l7
        have hs := H.s11 l9 l7 e1
        subst e1 e2
        have c1 := hb.cell 0 _ rfl
        have f1 := hb.free 0
        go_simp
        exact ⟨_, _, _, _, _, _, _, _, _, _, rfl, hs⟩
      · rw [Array.getElem?_eq_none (by simpa using h)] at ho
        cases ho
    · rintro L a w1 hall ⟨u11, u12, u20, u21, u22, u23, u24, u25, u26, u27, rfl, H⟩
      have l : ∀ i, i < 12 → L i = true := fun i hi => hall i (by simpa using hi)
      obtain ⟨M, e21, hM⟩ := H.f21 (l 1 (by omega))
      have e27 := H.f27 (l 7 (by omega))
      obtain ⟨fb, x, e11, -, hfb, hx⟩ := H.f11 (l 8 (by omega))
      obtain ⟨sb, y, e12, -, hsb, hy⟩ := H.f12 (l 9 (by omega))
      have hx := hx (l 10 (by omega))
      have hy := hy (l 11 (by omega))
      subst e11 e12 hx hy e21 e27
      have hbel : Below w.heap.size w w1 := H1.out.2.2.2.2.trans (H.up.below H1.out.2.2.2.2.size (by simp))
      have HF := Lib.hid (show FW w w1 (.slice a0 n0 c0) es w.heap.size fb sb M z (decide (d < hm)) ws from ⟨hbel, H.up.cell cz (by simp), hfb.cell 0 _ rfl, hsb.cell 0 _ rfl, hM, H1.out.1.keep H.up (by simp)⟩)
      clear hbel hM hfb hsb H cz hall l CA CH
      go_wp2_with fail
      refine (each_any _ _ w1 ⟨_, _, _, rfl⟩ ⟨_, _, rfl⟩).mono ?_
      rintro e w2 ⟨rfl, rfl⟩
      have CI := Lib.hid (ids_any _ es (fun x => decide (x.id ∈ ws) && (decide (x.zone = z) == decide (d < hm))) _ (seq_of (k := 31) (caps := #[.pointer (some ⟨fb, 0, none⟩), .pointer (some ⟨w.heap.size, 0, none⟩), .pointer (some ⟨sb, 0, none⟩)]) HF.out.he (enters_of Try.func31 (by kernel_rfl) rfl) (fun x W1 hb => ask_fit x z (decide (d < hm)) ws fb w.heap.size sb M W1 (HF.out.next hb).cf (HF.out.next hb).cz (HF.out.next hb).cs (HF.out.next hb).hm)))
      go_wp2_with fail
      refine CI.out.mono ?_
      rintro e w3 ⟨u, s, rfl, hs, hown, hb3⟩
      have hu2 := each_two w1 (.slice a0 n0 c0) (.func (.func 31) #[] #[.pointer (some ⟨fb, 0, none⟩), .pointer (some ⟨w.heap.size, 0, none⟩), .pointer (some ⟨sb, 0, none⟩)])
      have hb4 : Below w.heap.size w w3 := HF.out.bel.trans (((hu2.below (B := w1.heap.size) (Nat.le_refl _) (by simp)).trans (hb3.mono hu2.size)).mono HF.out.bel.size)
      have hfit : fitOf es ws z p d = fun x => decide (x.id ∈ ws) && (decide (x.zone = z) == decide (d < hm)) := by
        funext x
        simp [fitOf, HBB.out, HM.out]
      have hF : IdsPost es (fitOf es ws z p d) w (.returned u) w3 := ⟨u, s, rfl, by rw [hfit]; exact hs, ownsRow_mono hown (by have := HF.out.bel.size; have := hu2.size; omega), hb4⟩
      have HFF := Lib.hid hF
      clear hs hown hb3 hb4 hF hu2 CI hfit
      go_wp2_with fail
      go_ret
      exact HFF.out
end Go.Proofs.Ythblblkifkndiaa
