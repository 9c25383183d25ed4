/- Layer 13: the walk of SketchRises. -/
import Derived.Test.YtobmnjigenplnaaSketchRow
import Derived.BigQuiet
namespace Go.Proofs.Ytobmnjigenplnaa
open Go.RowKit
structure Pairs (w wr : World) (x y : Nat) (a0 a1 b0 b1 : Nat) : Prop where
  xs : ∀ k n : Nat, [a0, a1][k]? = some n → wr.cell? ⟨x, k, none⟩ = some (.int .i64 (n : Int))
  ys : ∀ k n : Nat, [b0, b1][k]? = some n → wr.cell? ⟨y, k, none⟩ = some (.int .i64 (n : Int))
  below : Below w.heap.size w wr
theorem Pairs.next {w wr w' : World} {x y a0 a1 b0 b1 : Nat} (h : Pairs w wr x y a0 a1 b0 b1) (u : Upd [] wr w') : Pairs w w' x y a0 a1 b0 b1 :=
  ⟨fun k n hk => u.cell (h.xs k n hk) (by simp), fun k n hk => u.cell (h.ys k n hk) (by simp), h.below.trans (u.below h.below.size (by simp))⟩
theorem pairs_new (w : World) (a0 a1 b0 b1 : Nat) : Pairs w ((w.alloc (.cells #[.int .i64 a0, .int .i64 a1] 3)).alloc (.cells #[.int .i64 b0, .int .i64 b1] 3)) w.heap.size (w.heap.size + 1) a0 a1 b0 b1 := by
  refine ⟨fun k n hk => ?_, fun k n hk => ?_, ((Below.refl _ _).alloc (Nat.le_refl _) _).alloc (by simp) _⟩
  · have := (BlockAt.new w 3 [.int .i64 a0, .int .i64 a1]).keep (Upd.alloc [] _ (.cells #[.int .i64 b0, .int .i64 b1] 3)) (by simp)
    refine this.cell k _ ?_
    match k with
    | 0 => simp at hk; simp [hk]
    | 1 => simp at hk; simp [hk]
    | k + 2 => simp at hk
  · have := (BlockAt.new (w.alloc (.cells #[.int .i64 a0, .int .i64 a1] 3)) 3 [.int .i64 b0, .int .i64 b1])
    refine (show (⟨w.heap.size + 1, k, none⟩ : Addr) = ⟨(w.alloc (.cells #[.int .i64 a0, .int .i64 a1] 3)).heap.size, k, none⟩ by simp) ▸ this.cell k _ ?_
    match k with
    | 0 => simp at hk; simp [hk]
    | 1 => simp at hk; simp [hk]
    | k + 2 => simp at hk
theorem rises_walk (n m : Int) (w : World) (h1 : -9223372036854775808 ≤ n) (h2 : n ≤ 9223372036854775807) (h3 : -9223372036854775808 ≤ m) (h4 : m ≤ 9223372036854775807) :
    Calls Try.prog 4 #[.int .i64 n, .int .i64 m] w (TruePost w) := by
  obtain ⟨a0, ha0, ha0'⟩ := aroundN n 4611686018427387904 (by omega)
  obtain ⟨a1, ha1, ha1'⟩ := aroundN n 300 (by omega)
  obtain ⟨b0, hb0, hb0'⟩ := aroundN m 4611686018427387904 (by omega)
  obtain ⟨b1, hb1, hb1'⟩ := aroundN m 300 (by omega)
  have HA0 := Lib.hid ha0
  have HA1 := Lib.hid ha1
  have HB0 := Lib.hid hb0
  have HB1 := Lib.hid hb1
  have HAL := Lib.hid (show ∀ n ∈ [a0, a1], n < 4611686018427387904 by simp; omega)
  have HBL := Lib.hid (show ∀ n ∈ [b0, b1], n < 4611686018427387904 by simp; omega)
  have HN := Lib.hid (pairs_new w a0 a1 b0 b1)
  clear ha0 ha1 hb0 hb1 ha0' ha1' hb0' hb1'
  go_enter Try.func4, Try.ntmps4
  go_wp2_with fail
  refine (around_any n 4611686018427387904 _ h1 h2 (by omega)).mono ?_
  rintro e w1 ⟨rfl, rfl⟩
  rw [show around n 4611686018427387904 = a0 from HA0.out]
  go_wp2_with fail
  refine (around_any n 300 _ h1 h2 (by omega)).mono ?_
  rintro e w1 ⟨rfl, rfl⟩
  rw [show around n 300 = a1 from HA1.out]
  go_wp2_with fail
  refine (around_any m 4611686018427387904 _ h3 h4 (by omega)).mono ?_
  rintro e w1 ⟨rfl, rfl⟩
  rw [show around m 4611686018427387904 = b0 from HB0.out]
  go_wp2_with fail
  refine (around_any m 300 _ h3 h4 (by omega)).mono ?_
  rintro e w1 ⟨rfl, rfl⟩
  rw [show around m 300 = b1 from HB1.out]
  go_wp2_with fail
  go_loopw [7] (fun i wr => ∃ k : Nat, k ≤ 2 ∧ i = .int .i64 k ∧ Pairs w wr w.heap.size (w.heap.size + 1) a0 a1 b0 b1) (fun i _ => 2 - (intOf i).toNat)
  case atStart => exact ⟨0, by omega, rfl, HN.out⟩
  case round =>
    obtain ⟨k, hk, rfl, hp⟩ := hrel
    have HP := Lib.hid hp
    clear HN
    by_cases hlt : k < 2
    · obtain ⟨a, ha⟩ : ∃ a, [a0, a1][k]? = some a := ⟨[a0, a1][k], by simp⟩
      obtain ⟨b, hb⟩ : ∃ b, [b0, b1][k]? = some b := ⟨[b0, b1][k], by simp⟩
      have hca := hp.xs k a ha
      have hcb := hp.ys k b hb
      have hal := HAL.out a (List.mem_of_getElem? ha)
      have hbl := HBL.out b (List.mem_of_getElem? hb)
      have hnr := up_near hal
      have hmono := Lib.hid (fun h : a ≤ b => bucketN_mono hbl h)
      have HAL1 := Lib.hid hal
      have HBL1 := Lib.hid hbl
      obtain ⟨ka, hka⟩ : ∃ ka, bucketN a = ka := ⟨_, rfl⟩
      have hkl := bucketN_lt hal
      rw [hka] at hnr hkl
      have HKA := Lib.hid hka
      have HKL := Lib.hid hkl
      obtain ⟨t, ht⟩ : ∃ t, topB ka = t := ⟨_, rfl⟩
      rw [ht] at hnr
      have HT := Lib.hid ht
      have HNR := Lib.hid hnr
      clear hp ha hb hal hbl hka hkl ht hnr
      go_wp2_with fail
      refine (bucket_any a _ HAL1.out).mono ?_
      rintro e w1 ⟨rfl, rfl⟩
      rw [show bucketN a = ka from HKA.out]
      go_wp2_with fail
      refine (top_any ka _ HKL.out).mono ?_
      rintro e w1 ⟨rfl, rfl⟩
      rw [show topB ka = t from HT.out]
      have CX := Lib.hid (fun (q : Nat) (hq : q < 4611686018427387904) (n : Nat) => bucket_any q (wr.drewN n) hq)
      have CU := Lib.hid (fun n => up_any a 8 (wr.drewN n) HAL1.out (by omega) (by omega))
      have hta : decide (t < a) = false := by have := HNR.out.1; simp; omega
      have s1 : (0 : Int) ≤ (t : Int) - a := by have := HNR.out.1; omega
      have s2 : (t : Int) - a < 4611686018427387904 := by have := HNR.out.2.2; omega
      have s3 : Go.RowKit.wrap64 ((t : Int) - a) = (t : Int) - a := by unfold Go.RowKit.wrap64; omega
      obtain ⟨U, hU⟩ : ∃ U, upN a 8 = U := ⟨_, rfl⟩
      obtain ⟨kb, hkb⟩ : ∃ kb, bucketN b = kb := ⟨_, rfl⟩
      rw [hU] at CU
      have hm2 : Hid (a ≤ b → ka ≤ kb) := fun h => by have := hmono.out h; rwa [HKA.out, hkb] at this
      have hnr2 := HNR.out.2.1
      rw [hU] at hnr2
      have HNR2 := Lib.hid hnr2
      have hka := HKA.out
      clear hU hmono hnr2
      by_cases ht0 : a = t
      · subst ht0
        by_cases hab : a ≤ b
        · have d1 : decide (ka ≤ kb) = true := by simpa using hm2.out hab
          have d2 : decide (kb < ka) = false := by have := hm2.out hab; simp; omega
          have d3 : decide (a ≤ b) = true := by simpa using hab
          clear hab
          go_wp2_with fail
          go_quiet ((first | (go_at_call 17; exact quietSame (CU.out _)) | (go_at_call 12; exact quietSame (CX.out _ (by first | exact HAL1.out | exact HBL1.out) _))))
          go_wp2_with fail
          go_roundw
          case rel => exact ⟨k + 1, by omega, by go_num, HP.out.next (Upd.drewN [] _ _)⟩
          case measure => simp [intOf] <;> omega
        · have d3 : decide (a ≤ b) = false := by simpa using hab
          clear hab
          go_wp2_with fail
          go_quiet ((first | (go_at_call 17; exact quietSame (CU.out _)) | (go_at_call 12; exact quietSame (CX.out _ (by first | exact HAL1.out | exact HBL1.out) _))))
          go_wp2_with fail
          go_roundw
          case rel => exact ⟨k + 1, by omega, by go_num, HP.out.next (Upd.drewN [] _ _)⟩
          case measure => simp [intOf] <;> omega
      · have d4 : decide (a < t) = true := by have := HNR.out.1; simp; omega
        have s4 : (0 : Int) < (t : Int) - a := by have := HNR.out.1; omega
        have hd := HNR2.out.resolve_left (fun e => ht0 e.symm)
        have s5 : (t : Int) - a < U := by have := HNR.out.1; omega
        have d5 : decide ((U : Int) ≤ (t : Int) - a) = false := by simp; omega
        clear hd
        by_cases hab : a ≤ b
        · have d1 : decide (ka ≤ kb) = true := by simpa using hm2.out hab
          have d2 : decide (kb < ka) = false := by have := hm2.out hab; simp; omega
          have d3 : decide (a ≤ b) = true := by simpa using hab
          clear hab
          go_wp2_with fail
          go_quiet ((first | (go_at_call 17; exact quietSame (CU.out _)) | (go_at_call 12; exact quietSame (CX.out _ (by first | exact HAL1.out | exact HBL1.out) _))))
          go_wp2_with fail
          go_roundw
          case rel => exact ⟨k + 1, by omega, by go_num, HP.out.next (Upd.drewN [] _ _)⟩
          case measure => simp [intOf] <;> omega
        · have d3 : decide (a ≤ b) = false := by simpa using hab
          clear hab
          go_wp2_with fail
          go_quiet ((first | (go_at_call 17; exact quietSame (CU.out _)) | (go_at_call 12; exact quietSame (CX.out _ (by first | exact HAL1.out | exact HBL1.out) _))))
          go_wp2_with fail
          go_roundw
          case rel => exact ⟨k + 1, by omega, by go_num, HP.out.next (Upd.drewN [] _ _)⟩
          case measure => simp [intOf] <;> omega
    · go_wp2_with fail
      refine (lives_any _).mono ?_
      rintro e w5 ⟨rfl, hb5⟩
      go_wp2
      go_ret
      exact ⟨rfl, HP.out.below.trans (hb5.mono HP.out.below.size)⟩
end Go.Proofs.Ytobmnjigenplnaa
