/- Layer 22: rows of items that are read; Same. -/
import Derived.Test.YtapoikegoknlcaaFairU
import Derived.IntWalk
namespace Go.Proofs.Ytapoikegoknlcaa
open Go.RowKit
def RowRd (W : World) (v : Value) (o : List It) : Prop := ∃ ao cap, v = .slice ao o.length cap ∧ (o = [] ∨ ∃ g, ao = some ⟨g, 0, none⟩ ∧ ItemsIn W g o ∧ o.length ≤ cap ∧ cap ≤ maxLen)
theorem RowRd.keep {S : List Nat} {W W' : World} {v : Value} {o : List It} (h : RowRd W v o) (u : Upd S W W') (hS : ∀ g, v.ownBlock = some g → g ∉ S) : RowRd W' v o := by
  obtain ⟨ao, cap, rfl, h⟩ := h
  refine ⟨ao, cap, rfl, h.imp _root_.id (fun ⟨g, hg, h1, h2⟩ => ⟨g, hg, h1.keep u (hS g (by rw [hg]; rfl)), h2⟩)⟩
theorem RowRd.of {W : World} {base : Nat} {v : Value} {o : List It} (h : W.ownsRow base 27 3 v o.length (cellsI o)) : RowRd W v o := by
  obtain ⟨ao, cap, hv, h⟩ := rowRead h
  exact ⟨ao, cap, hv, h.imp _root_.id (fun ⟨g, h1, h2, h3, h4, _⟩ => ⟨g, h1, h2, h3, h4⟩)⟩
theorem RowRd.step {base : Nat} {S : List Nat} {W W' : World} {v : Value} {o : List It} (h : RowRd W v o) (u : QStep base S W W') (hS : ∀ g, v.ownBlock = some g → g ∈ S) : RowRd W' v o := by
  obtain ⟨ao, cap, rfl, h⟩ := h
  refine ⟨ao, cap, rfl, h.imp _root_.id (fun ⟨g, hg, h1, h2⟩ => ⟨g, hg, fun k x hx => ?_, h2⟩)⟩
  have hb := u.same g (hS g (by rw [hg]; rfl))
  obtain ⟨c0, c1, c2⟩ := h1 k x hx
  exact ⟨(World.cell?_of_block (a := ⟨g, k * 3, none⟩) hb).trans c0, (World.cell?_of_block (a := ⟨g, k * 3 + 1, none⟩) hb).trans c1, (World.cell?_of_block (a := ⟨g, k * 3 + 2, none⟩) hb).trans c2⟩
theorem RowRd.get {W : World} {v : Value} {o : List It} (h : RowRd W v o) {q : Nat} {x : It} (hx : o[q]? = some x) : ∃ g cap, v = .slice (some ⟨g, 0, none⟩) o.length cap ∧ W.cell? ⟨g, q * 3, none⟩ = some (.int .i64 x.id) ∧ W.cell? ⟨g, q * 3 + 1, none⟩ = some (.int .i64 x.prio) ∧ W.cell? ⟨g, q * 3 + 2, none⟩ = some (.int .i64 x.flow) := by
  obtain ⟨ao, cap, rfl, h⟩ := h
  rcases h with rfl | ⟨g, rfl, h1, -⟩
  · simp at hx
  · obtain ⟨c0, c1, c2⟩ := h1 q x hx
    exact ⟨g, cap, rfl, c0, c1, c2⟩
theorem RowRd.val {W : World} {v : Value} {o : List It} (h : RowRd W v o) : ∃ ao cap, v = .slice ao o.length cap := by
  obtain ⟨ao, cap, hv, -⟩ := h
  exact ⟨ao, cap, hv⟩
set_option maxHeartbeats 2000000 in
theorem same_any (v1 v2 : Value) (o : List It) (w : World) (h1 : RowRd w v1 o) (h2 : RowRd w v2 o) (hl : (o.length : Int) ≤ 100000) :
    Calls Try.prog 20 #[v1, v2] w fun e w' => e = .returned (.bool true) ∧ Upd [] w w' := by
  have H1 := Lib.hid h1
  have H2 := Lib.hid h2
  have HU : Hid (Upd [] w w) := Lib.hid (Upd.refl _ _)
  obtain ⟨a1, c1, rfl⟩ := h1.val
  obtain ⟨a2, c2, rfl⟩ := h2.val
  obtain ⟨n, hn⟩ : ∃ n, o.length = n := ⟨_, rfl⟩
  have HN := Lib.hid hn
  rw [hn] at H1 H2 hl ⊢
  clear h1 h2 hn
  go_enter Try.func20, Try.ntmps20
  go_wp2_with fail
  go_loopw [5] (fun i wr => ∃ q : Nat, q ≤ n ∧ i = .int .i64 q ∧ Hid (Upd [] w wr)) (fun i _ => n - (intOf i).toNat)
  case atStart => exact ⟨0, by omega, rfl, HU⟩
  case round =>
    obtain ⟨q, hq, rfl, HU2⟩ := hrel
    clear HU
    by_cases hqn : q < n
    · obtain ⟨x, hx⟩ : ∃ x, o[q]? = some x := ⟨o[q]'(by rw [HN.out]; omega), by simp⟩
      obtain ⟨g1, d1, hv1, x0, x1, x2⟩ := (H1.out.keep HU2.out (by simp)).get hx
      obtain ⟨g2, d2, hv2, y0, y1, y2⟩ := (H2.out.keep HU2.out (by simp)).get hx
      obtain rfl : a1 = some ⟨g1, 0, none⟩ := by cases hv1; rfl
      obtain rfl : a2 = some ⟨g2, 0, none⟩ := by cases hv2; rfl
      clear hv1 hv2
      obtain ⟨xi, xp, xf⟩ := x
      dsimp only at x0 x1 x2 y0 y1 y2
      have q0 : (0 : Int) ≤ q := by omega
      have q1 : (q : Int) < n := by omega
      clear hx hqn
      go_wp2_with fail
      go_quiet (fail)
      go_wp2_with fail
      have HU3 : ∀ m, Hid (Upd [] w (wr.drewN m)) := fun m => Lib.hid (HU2.out.trans (Upd.drewN [] wr m))
      go_roundw
      case rel => exact ⟨q + 1, by omega, by go_num, HU3 _⟩
      case measure => simp [intOf] <;> omega
    · obtain rfl : q = n := by omega
      clear hqn
      go_wp2_with fail
      go_ret
      exact ⟨rfl, HU2.out⟩
end Go.Proofs.Ytapoikegoknlcaa
