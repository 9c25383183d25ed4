/- Has; SameInts of rows that are the same. -/
import Derived.Test.YtfmgcnmikopgeaaApp
namespace Go.Proofs.Ytfmgcnmikopgeaa
open Go.RowKit
def TruePost (w : World) (e : Ending) (w' : World) : Prop := e = .returned (.bool true) ∧ Below w.heap.size w w'
set_option maxHeartbeats 2000000 in
theorem has_any (v : Value) (zs : List Int) (n : Int) (w : World) (h : IntsIn w v zs) (hl : (zs.length : Int) ≤ 100000) :
    Calls Try.prog 19 #[v, .int .i64 n] w fun e w' => e = .returned (.bool (decide (n ∈ zs))) ∧ w = w' := by
  obtain ⟨a1, c1, rfl, -, -, hr1⟩ := h
  have HR1 := Lib.hid hr1
  obtain ⟨N, hN⟩ : ∃ N, zs.length = N := ⟨_, rfl⟩
  have HN := Lib.hid hN
  have HP : Hid (∀ j : Nat, j < 0 → ¬ zs[j]? = some n) := Lib.hid (fun j hj => by omega)
  rw [hN] at hl ⊢
  clear hr1 hN
  go_enter Try.func19, Try.ntmps19
  go_wp2_with fail
  go_loopw [5] (fun i wr => ∃ q : Nat, q ≤ N ∧ i = .int .i64 q ∧ w = wr ∧ Hid (∀ j : Nat, j < q → ¬ zs[j]? = some n)) (fun i _ => N - (intOf i).toNat)
  case atStart => exact ⟨0, by omega, rfl, rfl, HP⟩
  case round =>
    obtain ⟨q, hq, rfl, rfl, HQ⟩ := hrel
    clear HP
    by_cases hqn : q < N
    · have hqz : q < zs.length := by rw [HN.out]; exact hqn
      obtain ⟨b1, o1, rfl, x0⟩ : ∃ b off, a1 = some ⟨b, off, none⟩ ∧ w.cell? ⟨b, off + q, none⟩ = some (.int .i64 (zs.getD q 0)) := by
        rcases HR1.out with h | ⟨b, off, rfl, hc⟩
        · subst h; simp at hqz
        · exact ⟨b, off, rfl, hc q hqz⟩
      obtain ⟨z, hz⟩ : ∃ z, zs[q]? = some z := ⟨zs[q], by simp [hqz]⟩
      rw [List.getD, hz] at x0
      dsimp only [Option.getD] at x0
      have HZ := Lib.hid hz
      have q0 : (0 : Int) ≤ q := by omega
      have q1 : (q : Int) < N := by omega
      clear hz hqz hqn
      by_cases hzn : z = n
      · have HT : Hid (n ∈ zs) := Lib.hid (by rw [← hzn]; exact List.mem_of_getElem? HZ.out)
        go_wp2_with fail
        go_ret
        exact ⟨by simp [HT.out], rfl⟩
      · have HQ2 : Hid (∀ j : Nat, j < q + 1 → ¬ zs[j]? = some n) := Lib.hid (fun j hj => by
          rcases (show j < q ∨ j = q by omega) with hj | rfl
          · exact HQ.out j hj
          · rw [HZ.out]; simpa using hzn)
        go_wp2_with fail
        go_roundw
        case rel => exact ⟨q + 1, by omega, by go_num, trivial, HQ2⟩
        case measure => simp [intOf] <;> omega
    · obtain rfl : q = N := by omega
      have HF : Hid (¬ n ∈ zs) := Lib.hid (fun hm => by
        obtain ⟨j, hj⟩ := List.getElem?_of_mem hm
        exact HQ.out j (by rw [← HN.out]; exact (List.getElem?_eq_some_iff.1 hj).1) hj)
      clear hqn
      go_wp2_with fail
      go_ret
      exact ⟨by simp [HF.out], rfl⟩
set_option maxHeartbeats 2000000 in
theorem sameInts_any (v1 v2 : Value) (zs : List Int) (w : World) (h1 : IntsIn w v1 zs) (h2 : IntsIn w v2 zs) (hl : (zs.length : Int) ≤ 100000) :
    Calls Try.prog 14 #[v1, v2] w fun e w' => e = .returned (.bool true) ∧ Upd [] w w' := by
  obtain ⟨a1, c1, rfl, -, -, hr1⟩ := h1
  obtain ⟨a2, c2, rfl, -, -, hr2⟩ := h2
  have HR1 := Lib.hid hr1
  have HR2 := Lib.hid hr2
  have HU : Hid (Upd [] w w) := Lib.hid (Upd.refl _ _)
  obtain ⟨n, hn⟩ : ∃ n, zs.length = n := ⟨_, rfl⟩
  have HN := Lib.hid hn
  rw [hn] at hl ⊢
  clear hr1 hr2 hn
  go_enter Try.func14, Try.ntmps14
  go_wp2_with fail
  go_loopw [5] (fun i wr => ∃ q : Nat, q ≤ n ∧ i = .int .i64 q ∧ Hid (Upd [] w wr)) (fun i _ => n - (intOf i).toNat)
  case atStart => exact ⟨0, by omega, rfl, HU⟩
  case round =>
    obtain ⟨q, hq, rfl, HU2⟩ := hrel
    clear HU
    by_cases hqn : q < n
    · have hqz : q < zs.length := by rw [HN.out]; exact hqn
      obtain ⟨b1, o1, rfl, x0⟩ : ∃ b off, a1 = some ⟨b, off, none⟩ ∧ w.cell? ⟨b, off + q, none⟩ = some (.int .i64 (zs.getD q 0)) := by
        rcases HR1.out with h | ⟨b, off, rfl, hc⟩
        · subst h; simp at hqz
        · exact ⟨b, off, rfl, hc q hqz⟩
      obtain ⟨b2, o2, rfl, y0⟩ : ∃ b off, a2 = some ⟨b, off, none⟩ ∧ w.cell? ⟨b, off + q, none⟩ = some (.int .i64 (zs.getD q 0)) := by
        rcases HR2.out with h | ⟨b, off, rfl, hc⟩
        · subst h; simp at hqz
        · exact ⟨b, off, rfl, hc q hqz⟩
      have x1 := HU2.out.cell x0 (by simp)
      have y1 := HU2.out.cell y0 (by simp)
      obtain ⟨z, hz⟩ : ∃ z, zs.getD q 0 = z := ⟨_, rfl⟩
      rw [hz] at x1 y1
      have q0 : (0 : Int) ≤ q := by omega
      have q1 : (q : Int) < n := by omega
      clear x0 y0 hz hqz hqn
      go_wp2_with fail
      go_quiet (fail)
      go_wp2_with fail
      have HU3 : ∀ m, Hid (Upd [] w (wr.drewN m)) := fun m => Lib.hid (HU2.out.trans (Upd.drewN [] wr m))
      go_roundw
      case rel => exact ⟨q + 1, by omega, by go_num, HU3 _⟩
      case measure => simp [intOf] <;> omega
    · obtain rfl : q = n := by omega
      clear hqn
      go_wp2_with fail
      go_ret
      exact ⟨rfl, HU2.out⟩
end Go.Proofs.Ytfmgcnmikopgeaa
