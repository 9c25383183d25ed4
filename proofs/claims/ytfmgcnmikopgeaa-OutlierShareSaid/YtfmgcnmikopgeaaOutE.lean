/- Layer 14: Until, Times, eject. -/
import Derived.Test.YtfmgcnmikopgeaaOutD
namespace Go.Proofs.Ytfmgcnmikopgeaa
open Go.RowKit
def untlOf (N : Nat) (S : Nat → Es) (k : Int) : Int := if 1 ≤ k ∧ k ≤ N then (S (k - 1).toNat).untl else 0
def timesOf (N : Nat) (S : Nat → Es) (k : Int) : Int := if 1 ≤ k ∧ k ≤ N then (S (k - 1).toNat).times else 0
theorem until_any (base b : Nat) (t : Wt) (frm : Int) (m N : Nat) (B : Nat → Nat) (S : Nat → Es) (k : Int) (w : World) (h : GAt base w b t frm m N B S) :
    Calls Try.prog 17 #[.pointer (some ⟨b, 0, none⟩), .int .i64 k] w fun e w' => e = .returned (.int .i64 (untlOf N S k)) ∧ w = w' := by
  have c8 := h.blk.cell 8 _ rfl
  have hlk := h.look k
  by_cases hk : 1 ≤ k ∧ k ≤ (N : Int)
  · obtain ⟨i, hi, hik⟩ : ∃ i : Nat, i < N ∧ k = (i : Int) + 1 := ⟨(k - 1).toNat, by omega, by omega⟩
    have hp : ptrOf N B k = .pointer (some ⟨B i, 0, none⟩) := by rw [hik]; exact ptrOf_in hi
    have hu : untlOf N S k = (S i).untl := by unfold untlOf; rw [if_pos hk, hik, show ((i : Int) + 1 - 1).toNat = i by omega]
    have c3 := (h.ends i hi).cell 3 _ rfl
    rw [hp] at hlk
    rw [hu]
    clear hi hik hp
    clear h hk hu
    go_enter Try.func17, Try.ntmps17
    go_wp2
    go_ret
    exact ⟨rfl, rfl⟩
  · have hu : untlOf N S k = 0 := by unfold untlOf; rw [if_neg hk]
    rw [ptrOf_out hk] at hlk
    rw [hu]
    clear h hk hu
    go_enter Try.func17, Try.ntmps17
    go_wp2
    go_ret
    exact ⟨rfl, rfl⟩
theorem times_any (base b : Nat) (t : Wt) (frm : Int) (m N : Nat) (B : Nat → Nat) (S : Nat → Es) (k : Int) (w : World) (h : GAt base w b t frm m N B S) :
    Calls Try.prog 20 #[.pointer (some ⟨b, 0, none⟩), .int .i64 k] w fun e w' => e = .returned (.int .i64 (timesOf N S k)) ∧ w = w' := by
  have c8 := h.blk.cell 8 _ rfl
  have hlk := h.look k
  by_cases hk : 1 ≤ k ∧ k ≤ (N : Int)
  · obtain ⟨i, hi, hik⟩ : ∃ i : Nat, i < N ∧ k = (i : Int) + 1 := ⟨(k - 1).toNat, by omega, by omega⟩
    have hp : ptrOf N B k = .pointer (some ⟨B i, 0, none⟩) := by rw [hik]; exact ptrOf_in hi
    have hu : timesOf N S k = (S i).times := by unfold timesOf; rw [if_pos hk, hik, show ((i : Int) + 1 - 1).toNat = i by omega]
    have c3 := (h.ends i hi).cell 1 _ rfl
    rw [hp] at hlk
    rw [hu]
    clear hi hik hp
    clear h hk hu
    go_enter Try.func20, Try.ntmps20
    go_wp2
    go_ret
    exact ⟨rfl, rfl⟩
  · have hu : timesOf N S k = 0 := by unfold timesOf; rw [if_neg hk]
    rw [ptrOf_out hk] at hlk
    rw [hu]
    clear h hk hu
    go_enter Try.func20, Try.ntmps20
    go_wp2
    go_ret
    exact ⟨rfl, rfl⟩
/-- How long one that was ejected so often waits. -/
def waitR (base top : Int) : Nat → Int
  | 0 => base
  | k + 1 => if waitR base top k < top then waitR base top k * 2 else waitR base top k
theorem waitR_stop {base top : Int} {j : Nat} (h : ¬ waitR base top j < top) : ∀ d, waitR base top (j + d) = waitR base top j
  | 0 => rfl
  | d + 1 => by
    show (if waitR base top (j + d) < top then waitR base top (j + d) * 2 else waitR base top (j + d)) = _
    rw [waitR_stop h d, if_neg h]
theorem waitR_bound {base top : Int} (h0 : 1 ≤ base) (h1 : base ≤ 10000) (h2 : top ≤ 10000) : ∀ k, 1 ≤ waitR base top k ∧ waitR base top k ≤ 20000
  | 0 => ⟨h0, by show base ≤ 20000; omega⟩
  | k + 1 => by
    have := waitR_bound h0 h1 h2 k
    show 1 ≤ (if waitR base top k < top then waitR base top k * 2 else waitR base top k) ∧ (if waitR base top k < top then waitR base top k * 2 else waitR base top k) ≤ 20000
    split <;> omega
def ejectE (t : Wt) (now : Int) (s : Es) : Es := ⟨s.row, s.times + 1, true, now + min (waitR t.base t.top s.times.toNat) t.top, 0, 0, none⟩
structure WtOk (t : Wt) : Prop where
  b0 : 1 ≤ t.base
  b1 : t.base ≤ 10000
  t0 : 0 ≤ t.top
  t1 : t.top ≤ 10000
  s0 : 0 ≤ t.share
  s1 : t.share ≤ 100
  e0 : 1 ≤ t.errors
  e1 : t.errors ≤ 1000
  w0 : 0 ≤ t.window
  w1 : t.window ≤ 100000
def GPost (base b : Nat) (t : Wt) (frm : Int) (m N : Nat) (B : Nat → Nat) (S : Nat → Es) (w w' : World) : Prop := GAt base w' b t frm m N B S ∧ GStep base w w'
theorem eject_cells {t : Wt} {now M : Int} {s : Es} {k : Nat} (h1 : s.times = (k : Int)) (h2 : now + M = (ejectE t now s).untl) :
    ((((((s.cells.set 2 (.bool true)).set 3 (.int .i64 (now + M))).set 1 (.int .i64 ((k : Int) + 1))).set 4 (.int .i64 0)).set 5 (.int .i64 0)).set 6 (.pointer none)) = (ejectE t now s).cells := by
  rw [h2, ← h1]; rfl
set_option maxRecDepth 100000 in
set_option maxHeartbeats 2000000 in
theorem eject_any (base b : Nat) (t : Wt) (frm : Int) (m N : Nat) (B : Nat → Nat) (S : Nat → Es) (i : Nat) (now : Int) (w : World) (h : GAt base w b t frm m N B S) (hw : WtOk t) (hi : i < N) (hbw : base ≤ w.heap.size) (ht0 : 0 ≤ (S i).times) (ht1 : (S i).times ≤ 1000000) (hn0 : 0 ≤ now) (hn1 : now ≤ 1000000000) :
    Calls Try.prog 26 #[.pointer (some ⟨b, 0, none⟩), .pointer (some ⟨B i, 0, none⟩), .int .i64 now] w fun e w' => e = .returned (.tuple #[]) ∧ GPost base b t frm m N B (upd S i (ejectE t now (S i))) w w' := by
  have HG := Lib.hid h
  have c5 := h.blk.cell 5 _ rfl
  have c6 := h.blk.cell 6 _ rfl
  have he := h.ends i hi
  have d1 := he.cell 1 _ rfl
  have d2 := he.cell 2 _ rfl
  have d3 := he.cell 3 _ rfl
  have d4 := he.cell 4 _ rfl
  have d5 := he.cell 5 _ rfl
  have d6 := he.cell 6 _ rfl
  have f1 := he.free 1
  have f2 := he.free 2
  have f3 := he.free 3
  have f4 := he.free 4
  have f5 := he.free 5
  have f6 := he.free 6
  have HE := Lib.hid he
  have hne : ¬ B i = b := btype_ne he h.blk (by decide)
  have hne2 : ¬ b = B i := fun hh => hne hh.symm
  obtain ⟨k, hk⟩ : ∃ k : Nat, (S i).times = (k : Int) := ⟨(S i).times.toNat, by omega⟩
  have HWB := Lib.hid (waitR_bound (base := t.base) (top := t.top) hw.b0 hw.b1 hw.t1)
  have HB2 := Lib.hid (And.intro hi (And.intro hbw (h.low.2 i hi)))
  have HK := Lib.hid hk
  rw [hk] at d1
  have ht9 := hw.t1
  have ht8 := hw.t0
  have hb9 := hw.b0
  have hb8 := hw.b1
  obtain ⟨bs, hbs⟩ : ∃ bs, t.base = bs := ⟨_, rfl⟩
  obtain ⟨tp, htp⟩ : ∃ tp, t.top = tp := ⟨_, rfl⟩
  have HT := Lib.hid (And.intro hbs htp)
  rw [hbs] at c5 hb9 hb8
  rw [htp] at c6 ht9 ht8
  rw [hbs, htp] at HWB
  have hk1 : (k : Int) ≤ 1000000 := by omega
  clear h hw hi hbw he hk ht0 ht1 hbs htp
  go_enter Try.func26, Try.ntmps26
  go_wp2_with fail
  go_loop [6, 7] (fun wv iv => ∃ j : Nat, j ≤ k ∧ wv = .int .i64 (waitR bs tp j) ∧ iv = .int .i64 j) (fun _ i => k - (intOf i).toNat)
  case atStart => exact ⟨0, by omega, rfl, rfl⟩
  case round =>
    obtain ⟨j, hj, rfl, rfl⟩ := hrel
    have hwb := HWB.out j
    by_cases hgo : j < k ∧ waitR bs tp j < tp
    · have HN : Hid (waitR bs tp (j + 1) = waitR bs tp j * 2) := Lib.hid (by show (if waitR bs tp j < tp then waitR bs tp j * 2 else waitR bs tp j) = _; rw [if_pos hgo.2])
      obtain ⟨x, hx⟩ : ∃ x, waitR bs tp j = x := ⟨_, rfl⟩
      rw [hx] at hgo hwb HN
      rw [hx]
      have j1 : (j : Int) < k := by omega
      have j2 : x < tp := hgo.2
      have hjk : j < k := hgo.1
      clear hgo hx
      go_wp2_with fail
      go_round
      case rel => exact ⟨j + 1, by omega, by rw [HN.out], by go_num⟩
      case measure => simp [intOf] <;> omega
    · have HD : Hid (waitR bs tp j = waitR bs tp k) := Lib.hid (by
        by_cases e : j = k
        · rw [e]
        · have := waitR_stop (base := bs) (top := tp) (j := j) (by omega) (k - j)
          rw [show j + (k - j) = k by omega] at this
          exact this.symm)
      obtain ⟨x, hx⟩ : ∃ x, waitR bs tp j = x := ⟨_, rfl⟩
      rw [hx] at hgo hwb HD
      rw [hx]
      have HX := Lib.hid (show now + min x tp = (ejectE t now (S i)).untl by unfold ejectE; rw [HT.out.1, HT.out.2, HK.out, HD.out]; rfl)
      obtain ⟨M, hM⟩ : ∃ M, min x tp = M := ⟨_, rfl⟩
      have hM0 : 0 ≤ M ∧ M ≤ 20000 := by rw [← hM]; omega
      have ewM := IntWalk.i64_in (now + M) (by omega)
      rw [hM] at HX
      clear hx
      by_cases e : (j : Int) < k
      · have j2 : decide (x < tp) = false := by simp; omega
        clear hgo hj
        go_wp2_with fail
        have hb := (((((HE.out.set 2 (.bool true)).set 3 (.int .i64 (now + M))).set 1 (.int .i64 ((k : Int) + 1))).set 4 (.int .i64 0)).set 5 (.int .i64 0)).set 6 (.pointer none)
        rw [eject_cells HK.out HX.out] at hb
        have hu : Upd [B i] w ((((((w.setCell ⟨B i, 2, none⟩ (.bool true)).setCell ⟨B i, 3, none⟩ (.int .i64 (now + M))).setCell ⟨B i, 1, none⟩ (.int .i64 ((k : Int) + 1))).setCell ⟨B i, 4, none⟩ (.int .i64 0)).setCell ⟨B i, 5, none⟩ (.int .i64 0)).setCell ⟨B i, 6, none⟩ (.pointer none)) :=
          (((((Upd.setCell' _ _ _ (by simp)).trans (Upd.setCell' _ _ _ (by simp))).trans (Upd.setCell' _ _ _ (by simp))).trans (Upd.setCell' _ _ _ (by simp))).trans (Upd.setCell' _ _ _ (by simp))).trans (Upd.setCell' _ _ _ (by simp))
        go_end0
        exact ⟨rfl, HG.out.write HB2.out.1 hu hb (.inl rfl), .of hu HB2.out.2.1 (by simp; exact HG.out.freeE HB2.out.1)⟩
      · have j2 : decide ((j : Int) < k) = false := by simpa using e
        have j3 : ¬ j < k := by omega
        clear hgo hj
        go_wp2_with fail
        have hb := (((((HE.out.set 2 (.bool true)).set 3 (.int .i64 (now + M))).set 1 (.int .i64 ((k : Int) + 1))).set 4 (.int .i64 0)).set 5 (.int .i64 0)).set 6 (.pointer none)
        rw [eject_cells HK.out HX.out] at hb
        have hu : Upd [B i] w ((((((w.setCell ⟨B i, 2, none⟩ (.bool true)).setCell ⟨B i, 3, none⟩ (.int .i64 (now + M))).setCell ⟨B i, 1, none⟩ (.int .i64 ((k : Int) + 1))).setCell ⟨B i, 4, none⟩ (.int .i64 0)).setCell ⟨B i, 5, none⟩ (.int .i64 0)).setCell ⟨B i, 6, none⟩ (.pointer none)) :=
          (((((Upd.setCell' _ _ _ (by simp)).trans (Upd.setCell' _ _ _ (by simp))).trans (Upd.setCell' _ _ _ (by simp))).trans (Upd.setCell' _ _ _ (by simp))).trans (Upd.setCell' _ _ _ (by simp))).trans (Upd.setCell' _ _ _ (by simp))
        go_end0
        exact ⟨rfl, HG.out.write HB2.out.1 hu hb (.inl rfl), .of hu HB2.out.2.1 (by simp; exact HG.out.freeE HB2.out.1)⟩
end Go.Proofs.Ytfmgcnmikopgeaa
