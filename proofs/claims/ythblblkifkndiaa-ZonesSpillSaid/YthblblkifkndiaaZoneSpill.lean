/- Layer 11: ZonesSpill's plain law: the rows that it makes. -/
import Derived.Test.YthblblkifkndiaaZoneRow
import Derived.Deep.RegionHeld3
namespace Go.Proofs.Ythblblkifkndiaa
open Go.RowKit
def esA (a : Nat) : List En := (List.range a).map (fun i : Nat => ⟨1 + (i : Int), 0, 1⟩)
def esB (b : Nat) : List En := (List.range b).map (fun i : Nat => ⟨11 + (i : Int), 0, 2 + (i : Int) % 2⟩)
def ownL (a : Nat) : List Int := (List.range a).map (fun i : Nat => 1 + (i : Int))
def othL (b : Nat) : List Int := (List.range b).map (fun i : Nat => 11 + (i : Int))
theorem esA_succ (a : Nat) : esA (a + 1) = esA a ++ [⟨1 + (a : Int), 0, 1⟩] := by simp [esA, List.range_succ]
theorem esB_succ (a : Nat) : esB (a + 1) = esB a ++ [⟨11 + (a : Int), 0, 2 + (a : Int) % 2⟩] := by simp [esB, List.range_succ]
theorem ownL_succ (a : Nat) : ownL (a + 1) = ownL a ++ [1 + (a : Int)] := by simp [ownL, List.range_succ]
theorem othL_succ (a : Nat) : othL (a + 1) = othL a ++ [11 + (a : Int)] := by simp [othL, List.range_succ]
theorem esA_len (a : Nat) : (esA a).length = a := by simp [esA]
theorem esB_len (a : Nat) : (esB a).length = a := by simp [esB]
theorem ownL_len (a : Nat) : (ownL a).length = a := by simp [ownL]
theorem othL_len (a : Nat) : (othL a).length = a := by simp [othL]
/-- What holds of the rows that the law makes. -/
structure Spills (a b : Nat) : Prop where
  nodup : ((esA a ++ esB b).map En.id).Nodup
  ids : ∀ e ∈ esA a ++ esB b, 0 ≤ e.id ∧ e.id ≤ 1000000
  r : ∀ z ∈ ownL a ++ othL b, 0 ≤ z ∧ z ≤ 1000000
  sAll : (ownL a ++ othL b).Pairwise (· ≤ ·)
  h1 : homeOf (esA a ++ esB b) (ownL a ++ othL b) 1 = 100
  h2 : homeOf (esA a ++ esB b) (othL b) 1 = 0
  h3 : homeOf (esA a ++ esB b) (ownL a) 1 = 100
  h4 : homeOf (esA a ++ esB b) (ownL a ++ othL b).tail 1 = 100 * ((a : Int) - 1) / a
  p1 : panicOf (esA a ++ esB b) (ownL a ++ othL b) 100 = false
  p2 : panicOf (esA a ++ esB b) (othL b) 0 = false
  p3 : panicOf (esA a ++ esB b) [] 1 = true
  f1 : ((esA a ++ esB b).filter (fitOf (esA a ++ esB b) (ownL a ++ othL b) 1 100 0)).map En.id = ownL a
  f2 : ((esA a ++ esB b).filter (fitOf (esA a ++ esB b) (othL b) 1 0 0)).map En.id = othL b
  f3 : ((esA a ++ esB b).filter (fitOf (esA a ++ esB b) [] 1 1 0)).map En.id = ownL a ++ othL b
instance (a b : Nat) : Decidable (Spills a b) :=
  decidable_of_iff (((esA a ++ esB b).map En.id).Nodup ∧ (∀ e ∈ esA a ++ esB b, 0 ≤ e.id ∧ e.id ≤ 1000000) ∧ (∀ z ∈ ownL a ++ othL b, 0 ≤ z ∧ z ≤ 1000000) ∧ (ownL a ++ othL b).Pairwise (· ≤ ·) ∧
    homeOf (esA a ++ esB b) (ownL a ++ othL b) 1 = 100 ∧ homeOf (esA a ++ esB b) (othL b) 1 = 0 ∧ homeOf (esA a ++ esB b) (ownL a) 1 = 100 ∧ homeOf (esA a ++ esB b) (ownL a ++ othL b).tail 1 = 100 * ((a : Int) - 1) / a ∧
    panicOf (esA a ++ esB b) (ownL a ++ othL b) 100 = false ∧ panicOf (esA a ++ esB b) (othL b) 0 = false ∧ panicOf (esA a ++ esB b) [] 1 = true ∧
    ((esA a ++ esB b).filter (fitOf (esA a ++ esB b) (ownL a ++ othL b) 1 100 0)).map En.id = ownL a ∧ ((esA a ++ esB b).filter (fitOf (esA a ++ esB b) (othL b) 1 0 0)).map En.id = othL b ∧ ((esA a ++ esB b).filter (fitOf (esA a ++ esB b) [] 1 1 0)).map En.id = ownL a ++ othL b)
    ⟨fun ⟨a, b, c, d, e, f, g, h, i, j, k, l, m, n⟩ => ⟨a, b, c, d, e, f, g, h, i, j, k, l, m, n⟩, fun ⟨a, b, c, d, e, f, g, h, i, j, k, l, m, n⟩ => ⟨a, b, c, d, e, f, g, h, i, j, k, l, m, n⟩⟩
theorem spills_all : (List.range 8).all (fun a => (List.range 8).all (fun b => decide (Spills (a + 1) (b + 1)))) = true := by kernel_rfl
theorem spills {a b : Nat} (a0 : 1 ≤ a) (a1 : a ≤ 8) (b0 : 1 ≤ b) (b1 : b ≤ 8) : Spills a b := by
  have h1 := List.all_eq_true.1 spills_all (a - 1) (List.mem_range.2 (by omega))
  have h2 := List.all_eq_true.1 h1 (b - 1) (List.mem_range.2 (by omega))
  rw [Nat.sub_add_cancel a0, Nat.sub_add_cancel b0] at h2
  exact of_decide_eq_true h2
theorem fit_same {l : List En} {ws : List Int} {z p d d' : Int} (h : decide (d < homeOf l ws z) = decide (d' < homeOf l ws z)) : fitOf l ws z p d = fitOf l ws z p d' := by
  funext e
  unfold fitOf
  rw [h]
theorem Spills.i1 {a b : Nat} (h : Spills a b) {d : Int} (d0 : 0 ≤ d) (d1 : d < 100) : IsIds (esA a ++ esB b) (fitOf (esA a ++ esB b) (ownL a ++ othL b) 1 100 d) (ownL a) := by
  rw [fit_same (d := d) (d' := 0) (by rw [h.h1]; simp [d1])]
  exact ⟨by rw [h.f1], (List.pairwise_append.1 h.sAll).1⟩
theorem Spills.i2 {a b : Nat} (h : Spills a b) {d : Int} (d0 : 0 ≤ d) : IsIds (esA a ++ esB b) (fitOf (esA a ++ esB b) (othL b) 1 0 d) (othL b) := by
  rw [fit_same (d := d) (d' := 0) (by rw [h.h2]; simp; omega)]
  exact ⟨by rw [h.f2], (List.pairwise_append.1 h.sAll).2.1⟩
theorem Spills.i3 {a b : Nat} (h : Spills a b) {d : Int} : IsIds (esA a ++ esB b) (fitOf (esA a ++ esB b) [] 1 1 d) (ownL a ++ othL b) := by
  rw [fit_panic h.p3, ← fit_panic (z := 1) (d := 0) h.p3]
  exact ⟨by rw [h.f3], h.sAll⟩
theorem own_apart {w : World} {b1 b2 : Nat} {e1 e2 : TypeId} {s1 s2 : Nat} {v1 v2 : Value} {n1 n2 : Nat} {x1 x2 : List Value} (h1 : w.ownsRow b1 e1 s1 v1 n1 x1) (h2 : w.ownsRow b2 e2 s2 v2 n2 x2) (hne : e1 ≠ e2) : ∀ k, v1.ownBlock = some k → k ∉ v2.ownBlock.toList := by
  intro k hk hk2
  rcases h1.2 with ⟨hv, -⟩ | ⟨g, cap, cur, hv, -, hg, -⟩
  · rw [hv] at hk; cases hk
  rcases h2.2 with ⟨hv2, -⟩ | ⟨g2, cap2, cur2, hv2, -, hg2, -⟩
  · rw [hv2] at hk2; simp [Value.ownBlock] at hk2
  rw [hv] at hk
  rw [hv2] at hk2
  simp only [Value.ownBlock, Option.some.injEq] at hk
  simp [Value.ownBlock] at hk2
  rw [← hk] at hk2
  rw [hk2] at hg
  have := hg.symm.trans hg2
  simp at this
  exact hne this.2
/-- The rows that ZonesSpill has made, in memory. -/
structure SP (w W : World) (a b : Nat) (ev own oth all tl : Value) : Prop where
  bel : Below w.heap.size w W
  e : EIn W ev (esA a ++ esB b)
  i1 : IntsIn W own (ownL a)
  i2 : IntsIn W oth (othL b)
  i3 : IntsIn W all (ownL a ++ othL b)
  i4 : IntsIn W tl (ownL a ++ othL b).tail
  s : Spills a b
  a8 : a ≤ 8
  b8 : b ≤ 8
theorem SP.next {w W W' : World} {a b : Nat} {ev own oth all tl : Value} (h : SP w W a b ev own oth all tl) (hb : Below W.heap.size W W') : SP w W' a b ev own oth all tl :=
  ⟨h.bel.trans (hb.mono h.bel.size), h.e.next hb, h.i1.keep (Upd.ofBelow hb) (by simp), h.i2.keep (Upd.ofBelow hb) (by simp), h.i3.keep (Upd.ofBelow hb) (by simp), h.i4.keep (Upd.ofBelow hb) (by simp), h.s, h.a8, h.b8⟩
theorem SP.home {w W : World} {a b : Nat} {ev own oth all tl : Value} (h : SP w W a b ev own oth all tl) {v : Value} {l : List Int} {r : Int} (hv : IntsIn W v l) (hl : l.length ≤ 16) (hr : homeOf (esA a ++ esB b) l 1 = r) :
    Calls Try.prog 12 #[ev, v, .int .i64 1] W fun e W' => e = .returned (.int .i64 r) ∧ SP w W' a b ev own oth all tl :=
  (home_any ev v (esA a ++ esB b) l 1 W h.e.m hv (by omega)).mono (fun _ _ k => ⟨by rw [k.1, hr], h.next k.2⟩)
theorem SP.among {w W : World} {a b : Nat} {ev own oth all tl : Value} (h : SP w W a b ev own oth all tl) {v : Value} {l s : List Int} {p d : Int} (hv : IntsIn W v l) (hl : l.length ≤ 16) (p0 : 0 ≤ p) (p1 : p ≤ 1000) (hs : IsIds (esA a ++ esB b) (fitOf (esA a ++ esB b) l 1 p d) s) (hr : I64s s) :
    Calls Try.prog 15 #[ev, v, .int .i64 1, .int .i64 p, .int .i64 d] W fun e W' => ∃ x n c, e = .returned (.slice x n c) ∧ IntsIn W' (.slice x n c) s ∧ SP w W' a b ev own oth all tl :=
  (amongs_any ev v (esA a ++ esB b) l 1 p d W h.e.m hv (by omega) p0 p1).mono (fun _ _ ⟨u, t, k1, k2, k3, k4⟩ => by
    obtain rfl := ids_unique k2 hs
    obtain ⟨x, c, rfl⟩ := own_len k3
    exact ⟨x, _, c, k1, k3.isIn hr, h.next k4⟩)
theorem SP.same {w W : World} {a b : Nat} {ev own oth all tl : Value} (h : SP w W a b ev own oth all tl) {v u : Value} {l : List Int} (hv : IntsIn W v l) (hu : IntsIn W u l) (hl : l.length ≤ 16) :
    Calls Try.prog 14 #[v, u] W fun e W' => e = .returned (.bool true) ∧ SP w W' a b ev own oth all tl :=
  (sameInts_any v u l W hv hu (by omega)).mono (fun _ _ k => ⟨k.1, h.next (k.2.below (Nat.le_refl _) (by simp))⟩)
theorem SP.len {w W : World} {a b : Nat} {ev own oth all tl : Value} (h : SP w W a b ev own oth all tl) : (ownL a).length ≤ 16 ∧ (othL b).length ≤ 16 ∧ (ownL a ++ othL b).length ≤ 16 ∧ (ownL a ++ othL b).tail.length ≤ 16 := by
  have := h.a8
  have := h.b8
  refine ⟨by rw [ownL_len]; omega, by rw [othL_len]; omega, by rw [List.length_append, ownL_len, othL_len]; omega, by rw [List.length_tail, List.length_append, ownL_len, othL_len]; omega⟩
theorem SP.r {w W : World} {a b : Nat} {ev own oth all tl : Value} (h : SP w W a b ev own oth all tl) : I64s (ownL a) ∧ I64s (othL b) ∧ I64s (ownL a ++ othL b) :=
  ⟨fun z hz => by have := h.s.r z (List.mem_append_left _ hz); omega, fun z hz => by have := h.s.r z (List.mem_append_right _ hz); omega, fun z hz => by have := h.s.r z hz; omega⟩
theorem SP.lives {w W : World} {a b : Nat} {ev own oth all tl : Value} (h : SP w W a b ev own oth all tl) : Calls Try.prog 19 #[] W fun e W' => e = .returned (.bool true) ∧ SP w W' a b ev own oth all tl :=
  (lives_any W).mono (fun _ _ k => ⟨k.1, h.next k.2⟩)
theorem OwnInts.some {base : Nat} {w : World} {v : Value} {zs : List Int} (h : OwnInts base w v zs) (h0 : 0 < zs.length) : ∃ g cap, v = .slice (some ⟨g, 0, none⟩) zs.length cap ∧ zs.length ≤ cap ∧ cap ≤ maxLen ∧ ∀ j z, zs[j]? = some z → w.cell? ⟨g, j, none⟩ = some (.int .i64 z) := by
  rcases h.read with ⟨rfl, -⟩ | ⟨g, cap, hv, -, -, h1, h2, hc⟩
  · simp at h0
  · exact ⟨g, cap, hv, h1, h2, hc⟩
theorem intsIn_tail {w : World} {g n cap : Nat} {zs : List Int} (hc : ∀ j z, zs[j]? = some z → w.cell? ⟨g, j, none⟩ = some (.int .i64 z)) (hn : n = zs.tail.length) (hl : (zs.length : Int) ≤ 1000) (hr : ∀ z ∈ zs, -9223372036854775808 ≤ z ∧ z ≤ 9223372036854775807) : IntsIn w (.slice (some ⟨g, 1, none⟩) n cap) zs.tail := by
  subst hn
  refine ⟨_, cap, rfl, by simp; omega, fun z hz => hr z (List.mem_of_mem_tail hz), .inr ⟨g, 1, rfl, fun j hj => ?_⟩⟩
  rw [List.length_tail] at hj
  obtain ⟨z, hz⟩ : ∃ z, zs[j + 1]? = Option.some z := ⟨zs[j + 1]'(by omega), List.getElem?_eq_getElem _⟩
  rw [Nat.add_comm 1 j, hc (j + 1) z hz, List.getD, List.getElem?_tail, hz]
  rfl
end Go.Proofs.Ythblblkifkndiaa
