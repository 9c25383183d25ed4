/- Layer 22: the walk of FairAll. -/
import Derived.Test.YtapoikegoknlcaaFairV
import Derived.Deep.DeepCutAuto
import Derived.RegionTactic
namespace Go.Proofs.Ytapoikegoknlcaa
open Go.RowKit
set_option maxRecDepth 100000 in
set_option maxHeartbeats 4000000 in
theorem all_walk (l : Value) (zs : List Int) (n0 : Int) (w : World) (hl : IntsIn w l zs) (hn1 : -9223372036854775808 ≤ n0) (hn2 : n0 ≤ 9223372036854775807) :
    Calls Try.prog 7 #[l, .int .i64 n0] w (TruePost w) := by
  have b0 := around_nonneg n0 11 (by omega)
  have b1 := around_lt n0 11 (by omega)
  have CB := Lib.hid (fun w => around_any n0 11 w hn1 hn2 (by omega))
  obtain ⟨A, hA⟩ : ∃ k : Nat, around n0 11 = (k : Int) := ⟨(around n0 11).toNat, by omega⟩
  rw [hA] at b0 b1 CB
  have CF := Lib.hid (filled_qs 30 l zs w hl (by omega) (by omega))
  clear hA hn1 hn2 hl b0
  go_enter Try.func7, Try.ntmps7
  go_wp2_with fail
  refine CF.out.mono ?_
  rintro e w1 ⟨r, n, hputs, rfl, hq, hst⟩
  obtain ⟨b, hbe⟩ : ∃ b, w.heap.size = b := ⟨_, rfl⟩
  have HQ1 : Hid (QS w.heap.size w1 b 30 n r [] ∧ QStep w.heap.size [] w w1) := Lib.hid ⟨by rw [← hbe]; exact hq, hst⟩
  have HOK1 : Hid (RowsOk r n ∧ n ≤ 20) := Lib.hid ⟨hputs.ok, by have := hputs.len (by omega); omega⟩
  rw [hbe]
  clear hq hst hbe CF hputs
  go_wp2_with fail
  refine (CB.out _).mono ?_
  rintro e w' ⟨rfl, rfl⟩
  clear CB
  go_wp2_with fail
  go_loopw [6] (fun i wr => ∃ (I : Nat) (r : Nat → Row) (n : Int), i = .int .i64 I ∧ I ≤ 10 ∧ Hid (QS w.heap.size wr b 30 n r [] ∧ QStep w.heap.size [] w wr) ∧ Hid (RowsOk r n ∧ n ≤ 20)) (fun i _ => (intOf i).toNat)
  case atStart => exact ⟨A, r, n, rfl, by omega, HQ1, HOK1⟩
  case round =>
    obtain ⟨I, r, n, rfl, hI10, HQ, HOK⟩ := hrel
    clear HQ1 HOK1
    have CT := Lib.hid (take_qs w.heap.size b 30 n r [] wr HQ.out.1 (by have := HOK.out.1.tot; omega) (by have := HOK.out.2; omega) (fun q hq => by have := HOK.out.1.row hq; have := HOK.out.2; omega) (fun q hq hne => HOK.out.1.ne hq hne))
    by_cases hI : 0 < I
    · go_wp2_with fail
      refine CT.out.mono ?_
      rintro e w2 ⟨r', x, is, ht, rfl, hq2, hst2⟩
      have HQ2 : Hid (QS w.heap.size w2 b 30 (if is then n - 1 else n) r' [] ∧ QStep w.heap.size [] w w2) := Lib.hid ⟨hq2, HQ.out.2.trans hst2⟩
      have HOK2 : Hid (RowsOk r' (if is then n - 1 else n) ∧ (if is then n - 1 else n) ≤ 20) := Lib.hid ⟨HOK.out.1.take ht, by have := HOK.out.2; split <;> omega⟩
      obtain ⟨n2, hn2⟩ : ∃ m, (if is = true then n - 1 else n) = m := ⟨_, rfl⟩
      rw [hn2] at HQ2 HOK2
      clear ht hq2 hst2 hn2 CT
      go_wp2_with fail
      go_roundw
      case rel => exact ⟨I - 1, r', n2, by go_num, by omega, HQ2, HOK2⟩
      case measure => simp [intOf] <;> omega
    · obtain rfl : I = 0 := by omega
      have CAll := Lib.hid (all_qs w.heap.size b 30 n r [] wr HQ.out.1 (fun q hq => by have := HOK.out.1.row hq; have := HOK.out.2; omega))
      clear CT hI
      go_wp2_with fail
      refine CAll.out.mono ?_
      rintro e w2 ⟨o, ov, hall, rfl, hp⟩
      have hpq := hp.q
      rw [List.append_nil] at hpq
      have HR1 := Lib.hid (RowRd.of hp.own)
      have HST1 := Lib.hid (HQ.out.2.trans hp.st)
      have CAll2 := Lib.hid (all_qs w.heap.size b 30 n r ov.ownBlock.toList w2 hpq (fun q hq => by have := HOK.out.1.row hq; have := HOK.out.2; omega))
      have HALL := Lib.hid hall
      clear hall hp hpq CAll
      go_wp2_with fail
      refine CAll2.out.mono ?_
      rintro e w3 ⟨o2, ov2, hall2, rfl, hp2⟩
      obtain rfl := HALL.out.unique hall2
      have HR1b := Lib.hid (HR1.out.step hp2.st (fun g hg => by simp [hg]))
      have HR2 := Lib.hid (RowRd.of hp2.own)
      have HQ3 : Hid (QS w.heap.size w3 b 30 n r ov.ownBlock.toList) := Lib.hid (hp2.q.sub (by simp +contextual))
      have HST3 : Hid (QStep w.heap.size [] w w3) := Lib.hid (HST1.out.trans (hp2.st.sub (by simp)))
      have hol : (o.length : Int) = n := by rw [HALL.out.length]; exact HOK.out.1.tot.symm
      have CS := Lib.hid (same_any ov ov2 o w3 HR1b.out HR2.out (by have := HOK.out.2; omega))
      have HOL := Lib.hid hol
      clear hall2 hp2 CAll2 HR1 HST1 hol
      go_wp2_with fail
      refine CS.out.mono ?_
      rintro e w4 ⟨rfl, hu4⟩
      have HR4 := Lib.hid (HR1b.out.keep hu4 (by simp))
      have HQ4 := Lib.hid (HQ3.out.next hu4)
      have HST4 := Lib.hid (HST3.out.trans (QStep.upd hu4 HQ3.out.base_le (by simp) (by simp)))
      have CL := Lib.hid (len_qs w.heap.size b 30 n r _ w4 HQ4.out)
      obtain ⟨ao, cap, rfl⟩ := HR4.out.val
      have hol := HOL.out
      rw [← hol] at CL
      clear hu4 CS HR1b HR2 HQ3 HST3 hol
      go_wp2_with fail
      refine CL.out.mono ?_
      rintro e w5 ⟨rfl, rfl⟩
      clear CL
      go_wp2_with fail
      obtain ⟨no, hno⟩ : ∃ m, o.length = m := ⟨_, rfl⟩
      have HNO := Lib.hid hno
      have HS0 : Hid (QS w.heap.size w4 b 30 n r (Value.slice ao o.length cap).ownBlock.toList ∧ QStep w.heap.size [] w w4) := Lib.hid ⟨HQ4.out, HST4.out⟩
      have HA0 : Hid (RowsOk r n ∧ n = ((no - 0 : Nat) : Int) ∧ AllR r 0 (o.drop 0)) := Lib.hid ⟨HOK.out.1, by rw [← HOL.out, hno]; simp, HALL.out⟩
      have hno20 : no ≤ 20 := by have := HOK.out.2; have := HOL.out; omega
      obtain ⟨V, hV⟩ : ∃ V, Value.slice ao no cap = V := ⟨_, rfl⟩
      rw [hno] at HR4 HS0 ⊢
      have HV := Lib.hid hV
      have HR4' : Hid (RowRd w4 V o) := Lib.hid (by rw [← hV]; exact HR4.out)
      have HS0' : Hid (QS w.heap.size w4 b 30 n r V.ownBlock.toList ∧ QStep w.heap.size [] w w4) := Lib.hid (by rw [← hV]; exact HS0.out)
      clear hno HQ4 HST4 HALL HOK HOL HQ hV HR4 HS0
      go_loopw [9] (fun i wr => ∃ (q : Nat) (r : Nat → Row) (n : Int), q ≤ no ∧ i = .int .i64 q ∧ Hid (QS w.heap.size wr b 30 n r V.ownBlock.toList ∧ QStep w.heap.size [] w wr) ∧ Hid (RowsOk r n ∧ n = ((no - q : Nat) : Int) ∧ AllR r 0 (o.drop q)) ∧ Hid (RowRd wr V o)) (fun i _ => no - (intOf i).toNat)
      case atStart => exact ⟨0, r, n, by omega, rfl, HS0', HA0, HR4'⟩
      case round =>
        obtain ⟨q, r, n, hq, rfl, HS, HA, HR⟩ := hrel
        clear HS0' HA0 HR4'
        by_cases hqn : q < no
        · have CT := Lib.hid (take_qs w.heap.size b 30 n r V.ownBlock.toList wr HS.out.1 (by have := HA.out.2.1; omega) (by have := HA.out.2.1; omega) (fun q hq => by have := HA.out.1.row hq; have := HA.out.2.1; omega) (fun q hq hne => HA.out.1.ne hq hne))
          have q0 : (0 : Int) ≤ q := by omega
          have q1 : (q : Int) < no := by omega
          go_wp2_with fail
          refine CT.out.mono ?_
          rintro e w5 ⟨r', x, is, ht, rfl, hq5, hst5⟩
          obtain ⟨x', hx'⟩ : ∃ x, o[q]? = some x := ⟨o[q]'(by rw [HNO.out]; omega), by simp⟩
          have hdrop : o.drop q = x' :: o.drop (q + 1) := by
            obtain ⟨h1, rfl⟩ := List.getElem?_eq_some_iff.1 hx'
            exact List.drop_eq_getElem_cons h1
          obtain ⟨rfl, o', ho', ha'⟩ : is = true ∧ ∃ o', o.drop q = x :: o' ∧ AllR r' 0 o' := by
            rcases HA.out.2.2.take ht with h | ⟨-, h⟩
            · exact h
            · rw [hdrop] at h; cases h
          rw [hdrop] at ho'
          obtain ⟨rfl, rfl⟩ := List.cons.inj ho'
          have HA5 : Hid (RowsOk r' (n - 1) ∧ n - 1 = ((no - (q + 1) : Nat) : Int) ∧ AllR r' 0 (o.drop (q + 1))) := Lib.hid ⟨by simpa using HA.out.1.take ht, by have := HA.out.2.1; omega, ha'⟩
          have hq5' : QS w.heap.size w5 b 30 (n - 1) r' V.ownBlock.toList := by simpa using hq5
          have HS5 : Hid (QS w.heap.size (w5.alloc (.cells #[.int .i64 x'.id, .int .i64 x'.prio, .int .i64 x'.flow] 27)) b 30 (n - 1) r' V.ownBlock.toList ∧ QStep w.heap.size [] w (w5.alloc (.cells #[.int .i64 x'.id, .int .i64 x'.prio, .int .i64 x'.flow] 27))) := Lib.hid ⟨hq5'.next (Upd.alloc [] _ _), (HS.out.2.trans (hst5.sub (by simp))).trans (QStep.upd (Upd.alloc [] _ _) hq5'.base_le (by simp) (by simp))⟩
          have HR5 : Hid (RowRd (w5.alloc (.cells #[.int .i64 x'.id, .int .i64 x'.prio, .int .i64 x'.flow] 27)) V o) := Lib.hid ((HR.out.step hst5 (fun g hg => by simp [hg])).keep (Upd.alloc [] _ _) (by simp))
          have HX5 : Hid (BlockAt (w5.alloc (.cells #[.int .i64 x'.id, .int .i64 x'.prio, .int .i64 x'.flow] 27)) w5.heap.size 27 [.int .i64 x'.id, .int .i64 x'.prio, .int .i64 x'.flow]) := Lib.hid (BlockAt.new w5 _ _)
          obtain ⟨g, cap', hVg, y0, y1, y2⟩ := HR5.out.get hx'
          have ev : ao = some ⟨g, 0, none⟩ := by have := HV.out; rw [hVg] at this; cases this; rfl
          subst ev
          obtain ⟨xi, xp, xf⟩ := x'
          unfold It.val
          dsimp only at y0 y1 y2 HS5 HR5 HX5 ⊢
          clear ht hq5 hst5 hdrop hx' ho' ha' hq5' hVg CT HS HA HR
          go_wp2_with fail
          obtain ⟨W5, hW5⟩ : ∃ W, w5.alloc (.cells #[.int .i64 xi, .int .i64 xp, .int .i64 xf] 27) = W := ⟨_, rfl⟩
          obtain ⟨X, hX⟩ : ∃ X, w5.heap.size = X := ⟨_, rfl⟩
          rw [hW5] at HS5 HR5 y0 y1 y2
          rw [hW5, hX] at HX5
          rw [hW5, hX]
          have x0 := HX5.out.cell 0 _ rfl
          have x1 := HX5.out.cell 1 _ rfl
          have x2 := HX5.out.cell 2 _ rfl
          clear hW5 hX
          go_cut [59] (fun s wx => s = .bool false ∧ ∃ n, wx = W5.drewN n)
          case first =>
            go_quiet (fail)
            go_wp2_with fail
            go_meet
            exact ⟨rfl, _, rfl⟩
          case rest =>
            obtain ⟨rfl, nw, rfl⟩ := hcut
            have HS6 : Hid (QS w.heap.size (W5.drewN nw) b 30 (n - 1) r' V.ownBlock.toList ∧ QStep w.heap.size [] w (W5.drewN nw)) := Lib.hid ⟨HS5.out.1.next (Upd.drewN [] _ _), HS5.out.2.trans (QStep.upd (Upd.drewN [] _ _) HS5.out.1.base_le (by simp) (by simp))⟩
            have HR6 : Hid (RowRd (W5.drewN nw) V o) := Lib.hid (HR5.out.keep (Upd.drewN [] _ _) (by simp))
            clear HS5 HR5 HX5 x0 x1 x2 y0 y1 y2
            go_wp2_with fail
            go_roundw
            case rel => exact ⟨q + 1, r', n - 1, by omega, by go_num, HS6, HA5, HR6⟩
            case measure => simp [intOf] <;> omega
        · obtain rfl : q = no := by omega
          have hn0 : n = 0 := by have := HA.out.2.1; omega
          subst hn0
          have CL := Lib.hid (len_qs w.heap.size b 30 0 r _ wr HS.out.1)
          clear hqn hq
          go_wp2_with fail
          refine CL.out.mono ?_
          rintro e w5 ⟨rfl, rfl⟩
          go_wp2_with fail
          refine (lives_any _).mono ?_
          rintro e w9 ⟨rfl, hb9⟩
          have HB9 := Lib.hid hb9
          clear hb9
          go_wp2_with fail
          go_ret
          exact ⟨rfl, HS.out.2.below.trans (HB9.out.mono HS.out.2.size)⟩
end Go.Proofs.Ytapoikegoknlcaa
