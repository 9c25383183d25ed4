/- Layer 11: Well and Ends: what is made of numbers. -/
import Derived.Test.YthblblkifkndiaaZoneAmong
namespace Go.Proofs.Ythblblkifkndiaa
open Go.RowKit
structure WellOk (l : List Int) : Prop where
  len : (l.length : Int) ≤ 12
  r : ∀ z ∈ l, 1 ≤ z ∧ z ≤ 14
set_option maxHeartbeats 2000000 in
theorem well_any (v : Value) (zs : List Int) (w : World) (h : IntsIn w v zs) :
    Calls Try.prog 10 #[v] w fun e w' => ∃ v' l, e = .returned v' ∧ OwnInts w.heap.size w' v' l ∧ Below w.heap.size w w' ∧ WellOk l := by
  obtain ⟨a1, c1, rfl, hln, hr, hr1⟩ := h
  have HR1 := Lib.hid hr1
  have HR := Lib.hid hr
  have hll : (zs.length : Int) ≤ 9223372036854775807 := by omega
  have HI0 : Hid (OwnInts w.heap.size w (.slice none 0 0) [] ∧ Below w.heap.size w w ∧ ∀ z ∈ ([] : List Int), 1 ≤ z ∧ z ≤ 14) := Lib.hid ⟨OwnInts.nil _ _, Below.refl _ _, by simp⟩
  clear hr1 hr hln
  go_enter Try.func10, Try.ntmps10
  go_wp2_with fail
  go_loopw [3, 4] (fun v i wr => ∃ (q : Nat) (ao : Option Addr) (cap : Nat) (l : List Int), q ≤ 12 ∧ q ≤ zs.length ∧ i = .int .i64 q ∧ v = .slice ao q cap ∧ l.length = q ∧ Hid (OwnInts w.heap.size wr v l ∧ Below w.heap.size w wr ∧ ∀ z ∈ l, 1 ≤ z ∧ z ≤ 14)) (fun _ i _ => 12 - (intOf i).toNat)
  case atStart => exact ⟨0, none, 0, [], by omega, by omega, rfl, rfl, rfl, HI0⟩
  case round =>
    obtain ⟨q, ao, cap, l, hq, hqz, rfl, rfl, hlq, HI⟩ := hrel
    clear HI0
    have HL := Lib.hid hlq
    clear hlq
    have HEND : Hid (∃ l', OwnInts w.heap.size wr (Value.slice ao q cap) l' ∧ Below w.heap.size w wr ∧ WellOk l') := Lib.hid ⟨l, HI.out.1, HI.out.2.1, by rw [HL.out]; omega, HI.out.2.2⟩
    by_cases hl1 : q < zs.length
    · by_cases hl2 : q < 12
      · obtain ⟨z, hz⟩ : ∃ z, zs[q]? = some z := ⟨zs[q], by simp [hl1]⟩
        have hzr := HR.out z (List.mem_of_getElem? hz)
        obtain ⟨ab, off, rfl, hc0⟩ : ∃ b off, a1 = some ⟨b, off, none⟩ ∧ w.cell? ⟨b, off + q, none⟩ = some (.int .i64 z) := by
          rcases HR1.out with h | ⟨b, off, rfl, hc⟩
          · subst h; simp at hz
          · exact ⟨b, off, rfl, by rw [hc q hl1, List.getD, hz]; rfl⟩
        have hcell : wr.cell? ⟨ab, off + q, none⟩ = some (.int .i64 z) := (Upd.ofBelow HI.out.2.1).cell hc0 (by simp)
        have CA := Lib.hid (fun w => around_any z 14 w hzr.1 hzr.2 (by omega))
        have v0 := around_nonneg z 14 (by omega)
        have v1 := around_lt z 14 (by omega)
        obtain ⟨x, hx⟩ : ∃ x, around z 14 = x := ⟨_, rfl⟩
        rw [hx] at CA v0 v1
        have ew := IntWalk.i64_in (1 + x) (by omega)
        have HJ := Lib.hid (And.intro hl1 hl2)
        have HX := Lib.hid (And.intro v0 v1)
        have j0 : (0 : Int) ≤ q := by omega
        have hl1' : (q : Int) < zs.length := by omega
        have hl2' : (q : Int) < 12 := by omega
        have HOWN : Hid (wr.ownsRow w.heap.size 3 1 (.slice ao q cap) q (l.map (Value.int .i64))) := Lib.hid (by
          have := HI.out.1
          unfold OwnInts at this
          rwa [HL.out] at this)
        have HBS := Lib.hid HI.out.2.1.size
        clear hz hc0 hzr hx hl1 hl2 HEND v0 v1
        go_wp2_with fail
        refine (CA.out _).mono ?_
        rintro e w' ⟨rfl, rfl⟩
        clear CA
        go_wp2_with (at_builtin; refine wpList_append_put wr rfl (.tmp 15) (.tmp 22) 22 rfl w.heap.size 3 1 8 Try.infoInt (by kernel_rfl) rfl (by decide) (.slice ao q cap) q (l.map (Value.int .i64)) rfl HOWN.out [Value.int .i64 (1 + x)] rfl rfl rfl (by unfold maxLen; omega) (by omega) HBS.out ?_)
        intro gg cap' w4 hown hu hgg
        have HI4 : Hid (OwnInts w.heap.size w4 (.slice (some ⟨gg, 0, none⟩) (q + 1) cap') (l ++ [1 + x]) ∧ Below w.heap.size w w4 ∧ ∀ z ∈ l ++ [1 + x], 1 ≤ z ∧ z ≤ 14) := Lib.hid ⟨OwnInts.of hown (by simp [HL.out]) (by simp), HI.out.2.1.trans (hu.below HBS.out (fun k hk => by simp at hk; exact (HI.out.1.lt k hk).1)), fun y hy => by
          rcases List.mem_append.1 hy with hy | hy
          · exact HI.out.2.2 y hy
          · simp at hy; have := HX.out; omega⟩
        have HL4 : Hid ((l ++ [1 + x]).length = q + 1) := Lib.hid (by simp [HL.out])
        clear hown hu hgg HI HOWN hcell
        go_wp2_with fail
        go_roundw
        case rel => exact ⟨q + 1, some ⟨gg, 0, none⟩, cap', _, by have := HJ.out; omega, by have := HJ.out; omega, by go_num, rfl, HL4.out, HI4⟩
        case measure => have := HJ.out; simp [intOf] <;> omega
      · obtain rfl : q = 12 := by omega
        have hl1' : ((12 : Nat) : Int) < zs.length := by omega
        obtain ⟨l', h1⟩ := HEND.out
        go_wp2_with fail
        go_ret
        exact ⟨_, l', rfl, h1⟩
    · obtain rfl : q = zs.length := by omega
      obtain ⟨l', h1⟩ := HEND.out
      go_wp2_with fail
      go_ret
      exact ⟨_, l', rfl, h1⟩
end Go.Proofs.Ythblblkifkndiaa
