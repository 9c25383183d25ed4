/- Layer 23: Has and without. -/
import Derived.Test.YtklbnldkfohkpaaGateI
namespace Go.Proofs.Ytklbnldkfohkpaa
open Go.RowKit
set_option maxHeartbeats 2000000 in
theorem has_any (v : Value) (zs : List Int) (n : Int) (w : World) (h : IntsIn w v zs) (hl : (zs.length : Int) ≤ 100000) :
    Calls Try.prog 27 #[v, .int .i64 n] w fun e w' => e = .returned (.bool (decide (n ∈ zs))) ∧ w = w' := by
  obtain ⟨a1, c1, rfl, -, -, hr1⟩ := h
  have HR1 := Lib.hid hr1
  obtain ⟨N, hN⟩ : ∃ N, zs.length = N := ⟨_, rfl⟩
  have HN := Lib.hid hN
  have HP : Hid (∀ j : Nat, j < 0 → ¬ zs[j]? = some n) := Lib.hid (fun j hj => by omega)
  rw [hN] at hl ⊢
  clear hr1 hN
  go_enter Try.func27, Try.ntmps27
  go_wp2_with fail
  go_loopw [5] (fun i wr => ∃ q : Nat, q ≤ N ∧ i = .int .i64 q ∧ w = wr ∧ Hid (∀ j : Nat, j < q → ¬ zs[j]? = some n)) (fun i _ => N - (intOf i).toNat)
  case atStart => exact ⟨0, by omega, rfl, rfl, HP⟩
  case round =>
    obtain ⟨q, hq, rfl, rfl, HQ⟩ := hrel
    clear HP
    by_cases hqn : q < N
    · have hqz : q < zs.length := by rw [HN.out]; exact hqn
      obtain ⟨b1, o1, rfl, x0⟩ : ∃ b off, a1 = some ⟨b, off, none⟩ ∧ w.cell? ⟨b, off + q, none⟩ = some (.int .i64 (zs.getD q 0)) := by
        rcases HR1.out with h | ⟨b, off, rfl, hc⟩
        · subst h; simp at hqz
        · exact ⟨b, off, rfl, hc q hqz⟩
      obtain ⟨z, hz⟩ : ∃ z, zs[q]? = some z := ⟨zs[q], by simp [hqz]⟩
      rw [List.getD, hz] at x0
      dsimp only [Option.getD] at x0
      have HZ := Lib.hid hz
      have q0 : (0 : Int) ≤ q := by omega
      have q1 : (q : Int) < N := by omega
      clear hz hqz hqn
      by_cases hzn : z = n
      · have HT : Hid (n ∈ zs) := Lib.hid (by rw [← hzn]; exact List.mem_of_getElem? HZ.out)
        go_wp2_with fail
        go_ret
        exact ⟨by simp [HT.out], rfl⟩
      · have HQ2 : Hid (∀ j : Nat, j < q + 1 → ¬ zs[j]? = some n) := Lib.hid (fun j hj => by
          rcases (show j < q ∨ j = q by omega) with hj | rfl
          · exact HQ.out j hj
          · rw [HZ.out]; simpa using hzn)
        go_wp2_with fail
        go_roundw
        case rel => exact ⟨q + 1, by omega, by go_num, trivial, HQ2⟩
        case measure => simp [intOf] <;> omega
    · obtain rfl : q = N := by omega
      have HF : Hid (¬ n ∈ zs) := Lib.hid (fun hm => by
        obtain ⟨j, hj⟩ := List.getElem?_of_mem hm
        exact HQ.out j (by rw [← HN.out]; exact (List.getElem?_eq_some_iff.1 hj).1) hj)
      clear hqn
      go_wp2_with fail
      go_ret
      exact ⟨by simp [HF.out], rfl⟩
/-- numbers without one -/
def lessOf (zs : List Int) (n : Int) : List Int := zs.filter (fun z => decide (z ≠ n))
theorem lessOf_snoc (zs : List Int) (z n : Int) : lessOf (zs ++ [z]) n = if z = n then lessOf zs n else lessOf zs n ++ [z] := by
  unfold lessOf
  rw [List.filter_append]
  by_cases e : z = n
  · simp [e]
  · simp [e]
set_option maxHeartbeats 2000000 in
theorem without_any (v : Value) (zs : List Int) (n : Int) (w : World) (h : IntsIn w v zs) (hl : (zs.length : Int) ≤ 100000) :
    Calls Try.prog 38 #[v, .int .i64 n] w fun e w' => ∃ v', e = .returned v' ∧ OwnInts w.heap.size w' v' (lessOf zs n) ∧ Below w.heap.size w w' := by
  obtain ⟨a1, c1, rfl, -, -, hr1⟩ := h
  have HR1 := Lib.hid hr1
  obtain ⟨N, hN⟩ : ∃ N, zs.length = N := ⟨_, rfl⟩
  have HN := Lib.hid hN
  have HI0 : Hid (OwnInts w.heap.size w (.slice none 0 0) (lessOf (zs.take 0) n) ∧ Below w.heap.size w w) := Lib.hid ⟨OwnInts.nil _ _, Below.refl _ _⟩
  rw [hN] at hl ⊢
  clear hr1 hN
  go_enter Try.func38, Try.ntmps38
  go_wp2_with fail
  go_loopw [5, 6] (fun v i wr => ∃ (q m : Nat) (ao : Option Addr) (cap : Nat), q ≤ N ∧ i = .int .i64 q ∧ v = .slice ao m cap ∧ m = (lessOf (zs.take q) n).length ∧ Hid (OwnInts w.heap.size wr v (lessOf (zs.take q) n) ∧ Below w.heap.size w wr)) (fun _ i _ => N - (intOf i).toNat)
  case atStart => exact ⟨0, 0, none, 0, by omega, rfl, rfl, rfl, HI0⟩
  case round =>
    obtain ⟨q, m, ao, cap, hq, rfl, rfl, hm, HI⟩ := hrel
    clear HI0
    have HM := Lib.hid hm
    clear hm
    by_cases hqn : q < N
    · have hqz : q < zs.length := by rw [HN.out]; exact hqn
      obtain ⟨b1, o1, rfl, x0⟩ : ∃ b off, a1 = some ⟨b, off, none⟩ ∧ w.cell? ⟨b, off + q, none⟩ = some (.int .i64 (zs.getD q 0)) := by
        rcases HR1.out with h | ⟨b, off, rfl, hc⟩
        · subst h; simp at hqz
        · exact ⟨b, off, rfl, hc q hqz⟩
      obtain ⟨z, hz⟩ : ∃ z, zs[q]? = some z := ⟨zs[q], by simp [hqz]⟩
      rw [List.getD, hz] at x0
      dsimp only [Option.getD] at x0
      have y0 := (Upd.ofBelow HI.out.2).cell x0 (by simp)
      have HT : Hid (lessOf (zs.take (q + 1)) n = if z = n then lessOf (zs.take q) n else lessOf (zs.take q) n ++ [z]) := Lib.hid (by
        rw [← lessOf_snoc, List.take_add_one, hz]; rfl)
      have q0 : (0 : Int) ≤ q := by omega
      have q1 : (q : Int) < N := by omega
      clear hz hqz hqn x0
      by_cases hzn : z = n
      · have HI2 : Hid (OwnInts w.heap.size wr (.slice ao m cap) (lessOf (zs.take (q + 1)) n) ∧ Below w.heap.size w wr) := Lib.hid (by rw [HT.out, if_pos hzn]; exact HI.out)
        have HM2 : Hid (m = (lessOf (zs.take (q + 1)) n).length) := Lib.hid (by rw [HT.out, if_pos hzn]; exact HM.out)
        clear HI HM HT
        go_wp2_with fail
        go_roundw
        case rel => exact ⟨q + 1, m, ao, cap, by omega, by go_num, rfl, HM2.out, HI2⟩
        case measure => simp [intOf] <;> omega
      · have hml : (lessOf (zs.take q) n).length ≤ q := by
          unfold lessOf
          refine Nat.le_trans (List.length_filter_le _ _) ?_
          rw [List.length_take]; omega
        have HBD : Hid (m + 1 ≤ maxLen ∧ (m + 1) * 8 ≤ 140737488355328 ∧ w.heap.size ≤ wr.heap.size) := Lib.hid ⟨by unfold maxLen; have := HM.out; omega, by have := HM.out; omega, HI.out.2.size⟩
        have HOWN : Hid (wr.ownsRow w.heap.size 3 1 (.slice ao m cap) m ((lessOf (zs.take q) n).map (Value.int .i64))) := Lib.hid (by
          have := HI.out.1
          unfold OwnInts at this
          rwa [← HM.out] at this)
        clear hml
        go_wp2_with (at_builtin; refine wpList_append_put wr rfl (.tmp 19) (.tmp 24) 22 rfl w.heap.size 3 1 8 Try.infoInt (by kernel_rfl) rfl (by decide) (.slice ao m cap) m ((lessOf (zs.take q) n).map (Value.int .i64)) rfl HOWN.out [Value.int .i64 z] rfl rfl rfl HBD.out.1 HBD.out.2.1 HBD.out.2.2 ?_)
        intro gg cap' w4 hown hu hgg
        have HI4 : Hid (OwnInts w.heap.size w4 (.slice (some ⟨gg, 0, none⟩) (m + 1) cap') (lessOf (zs.take (q + 1)) n) ∧ Below w.heap.size w w4) := Lib.hid ⟨by
          rw [HT.out, if_neg hzn]
          exact OwnInts.of hown (by simp [HM.out]) (by simp), HI.out.2.trans (hu.below HBD.out.2.2 (fun k hk => by simp at hk; exact (HI.out.1.lt k hk).1))⟩
        have HM2 : Hid (m + 1 = (lessOf (zs.take (q + 1)) n).length) := Lib.hid (by rw [HT.out, if_neg hzn]; simp [HM.out])
        clear hown hu hgg HI HM HT y0 HOWN
        go_wp2_with fail
        go_roundw
        case rel => exact ⟨q + 1, m + 1, some ⟨gg, 0, none⟩, cap', by omega, by go_num, rfl, HM2.out, HI4⟩
        case measure => simp [intOf] <;> omega
    · obtain rfl : q = N := by omega
      have HI2 : Hid (OwnInts w.heap.size wr (.slice ao m cap) (lessOf zs n) ∧ Below w.heap.size w wr) := Lib.hid (by
        have := HI.out
        rwa [← HN.out, List.take_length] at this)
      clear hqn
      go_wp2_with fail
      go_ret
      exact ⟨_, rfl, HI2.out.1, HI2.out.2⟩
end Go.Proofs.Ytklbnldkfohkpaa
