/- Layer 11: one number more at a row's end, in a region that draws its order. -/
import Derived.Test.YthblblkifkndiaaZoneLaw
import Derived.Deep.QuietTactic
import Derived.BigQuiet
namespace Go.Proofs.Ythblblkifkndiaa
open Go.RowKit
theorem OwnInts.row {base : Nat} {w : World} {v : Value} {zs : List Int} (h : OwnInts base w v zs) : ∃ ao cap, v = .slice ao zs.length cap ∧ RowIn w 1 ao zs.length cap (zs.map (Value.int .i64)) := by
  rcases h.read with ⟨rfl, rfl⟩ | ⟨g, cap, rfl, -, -, -, -, hc⟩
  · exact ⟨none, 0, rfl, RowIn.empty _ _ _ _ (fun _ => rfl)⟩
  · refine ⟨_, cap, rfl, by simp, fun hh => (by cases hh), fun ad had j u hu => ?_⟩
    cases had
    rw [List.getElem?_map] at hu
    cases hz : zs[j]? with
    | none => rw [hz] at hu; cases hu
    | some z =>
      rw [hz] at hu
      cases hu
      rw [Addr.add_lit]
      simpa only [Nat.zero_add] using hc j z hz
theorem OwnInts.fresh (b : Nat) (w : World) (hb : b ≤ w.heap.size) : OwnInts b (w.alloc (.cells #[] 3)) (.slice (some ⟨w.heap.size, 0, none⟩) 0 0) [] := by
  refine ⟨rfl, .inr ⟨w.heap.size, 0, #[], rfl, hb, heap_alloc_new w _, Nat.le_refl _, by decide, rfl, rfl⟩⟩
theorem RowIn.keep {S : List Nat} {w w' : World} {ao : Option Addr} {n cap : Nat} {xs : List Value} (h : RowIn w 1 ao n cap xs) (u : Upd S w w') (hs : ∀ k ∈ S, w.heap.size ≤ k) : RowIn w' 1 ao n cap xs := by
  refine ⟨h.1, h.2.1, fun ad had j x hx => ?_⟩
  have hc := h.2.2 ad had j x hx
  refine u.cell hc (fun hh => ?_)
  have := World.block_lt_of_cell? w _ hc
  have h2 := hs _ hh
  omega
/-- 'append(v, u...)' of integers onto a row of the call's own. -/
theorem wp_append_ints {o : Oper} {a : Act} {w : World} {K : Act → World → Prop} {Q : Exit → Act → World → Prop} (s x : Operand)
    (ho : o.op = .call { callee := .builtin .append, args := #[s, x], argTypes := #[22, 22] })
    (base : Nat) (v : Value) (xs : List Int) (hs : a.eval s = v) (hown : OwnInts base w v xs)
    (ao : Option Addr) (m c : Nat) (ys : List Int) (hx : a.eval x = .slice ao m c) (hm : m = ys.length) (hy : RowIn w 1 ao m c (ys.map (Value.int .i64))) (hl : xs.length + ys.length ≤ 1000) (hbase : base ≤ w.heap.size) (hgd : o.guard = none)
    (h : ∀ v' w', OwnInts base w' v' (xs ++ ys) → Upd v.ownBlock.toList w w' → K (a.put o.dst v') w') : o.wp Try.prog a w K Q := by
  subst hm
  obtain ⟨i, hi, hz, hz1, hz2⟩ := info_parts Try.infoInt
  have hl63 : xs.length + ys.length ≤ maxLen := by unfold maxLen; omega
  cases ao with
  | none =>
    obtain ⟨h1, h2⟩ := hy.2.1 rfl
    have hnil : ys = [] := List.eq_nil_of_length_eq_zero h1
    subst hnil h2
    have hrun := run_append_owned_none (P := Try.prog) (w := w) base 22 o.type 3 i 1 (by kernel_rfl) hi v xs.length _ hown
    unfold Oper.wp
    simp only [List.length_nil] at hx
    simp [execOp, ho, resolve, invoke, builtin, hs, hx, hrun, Result.andThen]
    exact h v w (by simpa using hown) (Upd.refl _ _)
  | some ad =>
    refine wp_append_own w s x 22 ho base 3 i _ 1 8 (by kernel_rfl) hi hz hz1 hz2 rfl (by decide) v xs.length _ hs hown ad ys.length c (ys.map (Value.int .i64)) hx hy.1 (hy.2.2 ad rfl) (int_cells _ _) hl63 (by omega) hbase ?_
    intro v' w' hown' hg _
    exact h v' w' (by unfold OwnInts; rw [List.length_append, List.map_append]; exact hown') (Upd.grown hg)
/-- What stands in the slots of 'append(append([]int{}, ws...), id)' by what of it is listed. -/
structure MI (W : World) (ws : List Int) (vw ptr : Value) (id : Int) (L : Nat → Bool) (u0 u1 u2 u3 u4 u5 u6 u7 : Value) (w : World) : Prop where
  up : Upd [] W w
  f0 : L 0 = true → L 2 = false → ∃ g, u0 = .slice (some ⟨g, 0, none⟩) 0 0 ∧ OwnInts W.heap.size w u0 []
  f1 : L 1 = true → u1 = vw
  f2 : L 2 = true → L 6 = false → OwnInts W.heap.size w u2 ws
  f3 : L 3 = true → u3 = ptr
  f4 : L 4 = true → u4 = .int .i64 id
  f5 : L 5 = true → L 6 = false → ∃ g, u5 = .slice (some ⟨g, 0, none⟩) 1 1 ∧ W.heap.size ≤ g ∧ BlockAt w g 3 [.int .i64 id] ∧ (L 0 = true → L 2 = false → ∀ k, u0 = .slice (some ⟨k, 0, none⟩) 0 0 → ¬ k = g)
  f6 : L 6 = true → OwnInts W.heap.size w u6 (ws ++ [id])
  f7 : L 7 = true → u7 = u6
  c6 : L 6 = true → L 2 = true
  c7 : L 7 = true → L 6 = true
theorem MI.next {W : World} {ws : List Int} {vw ptr : Value} {id : Int} {L : Nat → Bool} {u0 u1 u2 u3 u4 u5 u6 u7 : Value} {w : World} {w' : World} (h : MI W ws vw ptr id L u0 u1 u2 u3 u4 u5 u6 u7 w) (u : Upd [] w w') : MI W ws vw ptr id L u0 u1 u2 u3 u4 u5 u6 u7 w' :=
  ⟨h.up.trans u, fun a b => by obtain ⟨g, e, k⟩ := h.f0 a b; exact ⟨g, e, k.keep u (by simp)⟩, h.f1, fun a b => (h.f2 a b).keep u (by simp), h.f3, h.f4, fun a b => by obtain ⟨g, e, k1, k2, k3⟩ := h.f5 a b; exact ⟨g, e, k1, k2.keep u (by simp), k3⟩, fun a => (h.f6 a).keep u (by simp), h.f7, h.c6, h.c7⟩
theorem MI.s1 {W : World} {ws : List Int} {vw ptr : Value} {id : Int} {L : Nat → Bool} {u0 u1 u2 u3 u4 u5 u6 u7 : Value} {w : World} (h : MI W ws vw ptr id L u0 u1 u2 u3 u4 u5 u6 u7 w) {x : Value} (hx : x = vw) : MI W ws vw ptr id (fun j => decide (j = 1) || L j) u0 x u2 u3 u4 u5 u6 u7 w := by
  exact ⟨h.up, fun a b => h.f0 (by simpa using a) (by simpa using b), fun _ => hx, fun a b => h.f2 (by simpa using a) (by simpa using b), fun a => h.f3 (by simpa using a), fun a => h.f4 (by simpa using a), fun a b => by obtain ⟨g, e, k1, k2, k3⟩ := h.f5 (by simpa using a) (by simpa using b); exact ⟨g, e, k1, k2, fun c d => k3 (by simpa using c) (by simpa using d)⟩, fun a => h.f6 (by simpa using a), fun a => h.f7 (by simpa using a), fun a => by have := h.c6 (by simpa using a); simp [this], fun a => by have := h.c7 (by simpa using a); simp [this]⟩
theorem MI.s3 {W : World} {ws : List Int} {vw ptr : Value} {id : Int} {L : Nat → Bool} {u0 u1 u2 u3 u4 u5 u6 u7 : Value} {w : World} (h : MI W ws vw ptr id L u0 u1 u2 u3 u4 u5 u6 u7 w) {x : Value} (hx : x = ptr) : MI W ws vw ptr id (fun j => decide (j = 3) || L j) u0 u1 u2 x u4 u5 u6 u7 w := by
  exact ⟨h.up, fun a b => h.f0 (by simpa using a) (by simpa using b), fun a => h.f1 (by simpa using a), fun a b => h.f2 (by simpa using a) (by simpa using b), fun _ => hx, fun a => h.f4 (by simpa using a), fun a b => by obtain ⟨g, e, k1, k2, k3⟩ := h.f5 (by simpa using a) (by simpa using b); exact ⟨g, e, k1, k2, fun c d => k3 (by simpa using c) (by simpa using d)⟩, fun a => h.f6 (by simpa using a), fun a => h.f7 (by simpa using a), fun a => by have := h.c6 (by simpa using a); simp [this], fun a => by have := h.c7 (by simpa using a); simp [this]⟩
theorem MI.s4 {W : World} {ws : List Int} {vw ptr : Value} {id : Int} {L : Nat → Bool} {u0 u1 u2 u3 u4 u5 u6 u7 : Value} {w : World} (h : MI W ws vw ptr id L u0 u1 u2 u3 u4 u5 u6 u7 w) {x : Value} (hx : x = .int .i64 id) : MI W ws vw ptr id (fun j => decide (j = 4) || L j) u0 u1 u2 u3 x u5 u6 u7 w := by
  exact ⟨h.up, fun a b => h.f0 (by simpa using a) (by simpa using b), fun a => h.f1 (by simpa using a), fun a b => h.f2 (by simpa using a) (by simpa using b), fun a => h.f3 (by simpa using a), fun _ => hx, fun a b => by obtain ⟨g, e, k1, k2, k3⟩ := h.f5 (by simpa using a) (by simpa using b); exact ⟨g, e, k1, k2, fun c d => k3 (by simpa using c) (by simpa using d)⟩, fun a => h.f6 (by simpa using a), fun a => h.f7 (by simpa using a), fun a => by have := h.c6 (by simpa using a); simp [this], fun a => by have := h.c7 (by simpa using a); simp [this]⟩
theorem MI.s7 {W : World} {ws : List Int} {vw ptr : Value} {id : Int} {L : Nat → Bool} {u0 u1 u2 u3 u4 u5 u6 u7 : Value} {w : World} (h : MI W ws vw ptr id L u0 u1 u2 u3 u4 u5 u6 u7 w) (h6 : L 6 = true) {x : Value} (hx : x = u6) : MI W ws vw ptr id (fun j => decide (j = 7) || L j) u0 u1 u2 u3 u4 u5 u6 x w := by
  exact ⟨h.up, fun a b => h.f0 (by simpa using a) (by simpa using b), fun a => h.f1 (by simpa using a), fun a b => h.f2 (by simpa using a) (by simpa using b), fun a => h.f3 (by simpa using a), fun a => h.f4 (by simpa using a), fun a b => by obtain ⟨g, e, k1, k2, k3⟩ := h.f5 (by simpa using a) (by simpa using b); exact ⟨g, e, k1, k2, fun c d => k3 (by simpa using c) (by simpa using d)⟩, fun a => h.f6 (by simpa using a), fun _ => hx, fun a => by have := h.c6 (by simpa using a); simp [this], fun _ => by simp [h6]⟩
theorem MI.s0 {W : World} {ws : List Int} {vw ptr : Value} {id : Int} {L : Nat → Bool} {u0 u1 u2 u3 u4 u5 u6 u7 : Value} {w : World} (h : MI W ws vw ptr id L u0 u1 u2 u3 u4 u5 u6 u7 w) (hL : L 0 = false) {x : Value} {g : Nat} (hg : x = .slice (some ⟨g, 0, none⟩) 0 0) (ho : OwnInts W.heap.size w x []) (hn : ∀ k, BlockAt w k 3 [.int .i64 id] → ¬ g = k) : MI W ws vw ptr id (fun j => decide (j = 0) || L j) x u1 u2 u3 u4 u5 u6 u7 w := by
  exact ⟨h.up, fun _ _ => ⟨g, hg, ho⟩, fun a => h.f1 (by simpa using a), fun a b => h.f2 (by simpa using a) (by simpa using b), fun a => h.f3 (by simpa using a), fun a => h.f4 (by simpa using a), fun a b => by obtain ⟨k, e, k1, k2, k3⟩ := h.f5 (by simpa using a) (by simpa using b); exact ⟨k, e, k1, k2, fun _ _ j hj => by rw [hg] at hj; cases hj; exact hn k k2⟩, fun a => h.f6 (by simpa using a), fun a => h.f7 (by simpa using a), fun a => by have := h.c6 (by simpa using a); simp [this], fun a => by have := h.c7 (by simpa using a); simp [this]⟩
theorem MI.s5 {W : World} {ws : List Int} {vw ptr : Value} {id : Int} {L : Nat → Bool} {u0 u1 u2 u3 u4 u5 u6 u7 : Value} {w : World} (h : MI W ws vw ptr id L u0 u1 u2 u3 u4 u5 u6 u7 w) {g : Nat} {x : Value} (hg : x = .slice (some ⟨g, 0, none⟩) 1 1) (h1 : W.heap.size ≤ g) (hb : BlockAt w g 3 [.int .i64 id]) (hn : ∀ k, L 0 = true → L 2 = false → u0 = .slice (some ⟨k, 0, none⟩) 0 0 → ¬ k = g) : MI W ws vw ptr id (fun j => decide (j = 5) || L j) u0 u1 u2 u3 u4 x u6 u7 w := by
  exact ⟨h.up, fun a b => h.f0 (by simpa using a) (by simpa using b), fun a => h.f1 (by simpa using a), fun a b => h.f2 (by simpa using a) (by simpa using b), fun a => h.f3 (by simpa using a), fun a => h.f4 (by simpa using a), fun _ _ => ⟨g, hg, h1, hb, fun c d k hk => hn k (by simpa using c) (by simpa using d) hk⟩, fun a => h.f6 (by simpa using a), fun a => h.f7 (by simpa using a), fun a => by have := h.c6 (by simpa using a); simp [this], fun a => by have := h.c7 (by simpa using a); simp [this]⟩
theorem MI.s2 {W : World} {ws : List Int} {vw ptr : Value} {id : Int} {L : Nat → Bool} {u0 u1 u2 u3 u4 u5 u6 u7 : Value} {w : World} {w' : World} (h : MI W ws vw ptr id L u0 u1 u2 u3 u4 u5 u6 u7 w) (h0 : L 0 = true) (hL : L 2 = false) {x : Value} (hx : OwnInts W.heap.size w' x ws) (u : Upd u0.ownBlock.toList w w') : MI W ws vw ptr id (fun j => decide (j = 2) || L j) u0 u1 x u3 u4 u5 u6 u7 w' := by
  obtain ⟨g, e, ho⟩ := h.f0 h0 hL
  have hlt := ho.lt g (by rw [e]; rfl)
  have u' : Upd [g] w w' := by rw [e] at u; exact u.mono (by simp [Value.ownBlock])
  have hn6 : ¬ L 6 = true := fun h6 => by rw [h.c6 h6] at hL; cases hL
  refine ⟨h.up.trans' u' (fun i hi => by simp at hi; subst hi; exact .inr hlt.1), fun _ b => by simp at b, fun a => h.f1 (by simpa using a), fun _ _ => hx, fun a => h.f3 (by simpa using a), fun a => h.f4 (by simpa using a), fun a b => ?_, fun a => absurd (by simpa using a) hn6, fun a => h.f7 (by simpa using a), fun _ => by simp, fun a => by have := h.c7 (by simpa using a); simp [this]⟩
  obtain ⟨k, e5, k1, k2, k3⟩ := h.f5 (by simpa using a) (by simpa using b)
  refine ⟨k, e5, k1, k2.keep u' (by simp; exact fun hh => k3 h0 hL g e hh.symm), fun _ d => by simp at d⟩
theorem MI.s6 {W : World} {ws : List Int} {vw ptr : Value} {id : Int} {L : Nat → Bool} {u0 u1 u2 u3 u4 u5 u6 u7 : Value} {w : World} {w' : World} (h : MI W ws vw ptr id L u0 u1 u2 u3 u4 u5 u6 u7 w) (h2 : L 2 = true) (hL : L 6 = false) {x : Value} (hx : OwnInts W.heap.size w' x (ws ++ [id])) (u : Upd u2.ownBlock.toList w w') : MI W ws vw ptr id (fun j => decide (j = 6) || L j) u0 u1 u2 u3 u4 u5 x u7 w' := by
  have ho := h.f2 h2 hL
  have hn7 : ¬ L 7 = true := fun h7 => by rw [h.c7 h7] at hL; cases hL
  refine ⟨h.up.trans' u (fun i hi => .inr (ho.lt i (by simpa using hi)).1), fun _ b => by simp [h2] at b, fun a => h.f1 (by simpa using a), fun _ b => by simp at b, fun a => h.f3 (by simpa using a), fun a => h.f4 (by simpa using a), fun _ b => by simp at b, fun _ => hx, fun a => absurd (by simpa using a) hn7, fun _ => by simp [h2], fun _ => by simp⟩
def MInv (T : Value → Value → Value → Value → Value → Value → Value → Value → Act) (W : World) (ws : List Int) (vw ptr : Value) (id : Int) (L : Nat → Bool) (a : Act) (w : World) : Prop := ∃ u0 u1 u2 u3 u4 u5 u6 u7, a = T u0 u1 u2 u3 u4 u5 u6 u7 ∧ MI W ws vw ptr id L u0 u1 u2 u3 u4 u5 u6 u7 w
theorem row_one {w : World} {g : Nat} {x : Int} (h : BlockAt w g 3 [.int .i64 x]) : RowIn w 1 (some ⟨g, 0, none⟩) 1 1 ([x].map (Value.int .i64)) := by
  refine ⟨rfl, fun hh => (by cases hh), fun ad had j u hu => ?_⟩
  cases had
  rw [Addr.add_lit]
  simpa only [Nat.zero_add] using h.cell j u hu
end Go.Proofs.Ythblblkifkndiaa
