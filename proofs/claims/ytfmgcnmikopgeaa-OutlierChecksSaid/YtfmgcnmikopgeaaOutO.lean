/- Layer 14: outlier.Check walked. -/
import Derived.Test.YtfmgcnmikopgeaaOutN
import Derived.Deep.WholeRow
namespace Go.Proofs.Ytfmgcnmikopgeaa
open Go.RowKit
/-- A row of the table of bounds, read. -/
theorem idx_0 (c0 c1 c2 c3 c4 c5 c6 c7 c8 c9 c10 c11 c12 c13 c14 c15 c16 c17 c18 c19 c20 : Value) (W : World) : (Instr.index 63 (.agg #[c0, c1, c2, c3, c4, c5, c6, c7, c8, c9, c10, c11, c12, c13, c14, c15, c16, c17, c18, c19, c20]) (.int .i64 0)).run Try.prog W = .ok (.agg #[c0, c1, c2]) W := by
  simp [Instr.index, run_underlying Try.underlying63, asIntOf, show Try.prog.cellsOf 62 = 3 by kernel_rfl, go_sem]
theorem idx_1 (c0 c1 c2 c3 c4 c5 c6 c7 c8 c9 c10 c11 c12 c13 c14 c15 c16 c17 c18 c19 c20 : Value) (W : World) : (Instr.index 63 (.agg #[c0, c1, c2, c3, c4, c5, c6, c7, c8, c9, c10, c11, c12, c13, c14, c15, c16, c17, c18, c19, c20]) (.int .i64 1)).run Try.prog W = .ok (.agg #[c3, c4, c5]) W := by
  simp [Instr.index, run_underlying Try.underlying63, asIntOf, show Try.prog.cellsOf 62 = 3 by kernel_rfl, go_sem]
theorem idx_2 (c0 c1 c2 c3 c4 c5 c6 c7 c8 c9 c10 c11 c12 c13 c14 c15 c16 c17 c18 c19 c20 : Value) (W : World) : (Instr.index 63 (.agg #[c0, c1, c2, c3, c4, c5, c6, c7, c8, c9, c10, c11, c12, c13, c14, c15, c16, c17, c18, c19, c20]) (.int .i64 2)).run Try.prog W = .ok (.agg #[c6, c7, c8]) W := by
  simp [Instr.index, run_underlying Try.underlying63, asIntOf, show Try.prog.cellsOf 62 = 3 by kernel_rfl, go_sem]
theorem idx_3 (c0 c1 c2 c3 c4 c5 c6 c7 c8 c9 c10 c11 c12 c13 c14 c15 c16 c17 c18 c19 c20 : Value) (W : World) : (Instr.index 63 (.agg #[c0, c1, c2, c3, c4, c5, c6, c7, c8, c9, c10, c11, c12, c13, c14, c15, c16, c17, c18, c19, c20]) (.int .i64 3)).run Try.prog W = .ok (.agg #[c9, c10, c11]) W := by
  simp [Instr.index, run_underlying Try.underlying63, asIntOf, show Try.prog.cellsOf 62 = 3 by kernel_rfl, go_sem]
theorem idx_4 (c0 c1 c2 c3 c4 c5 c6 c7 c8 c9 c10 c11 c12 c13 c14 c15 c16 c17 c18 c19 c20 : Value) (W : World) : (Instr.index 63 (.agg #[c0, c1, c2, c3, c4, c5, c6, c7, c8, c9, c10, c11, c12, c13, c14, c15, c16, c17, c18, c19, c20]) (.int .i64 4)).run Try.prog W = .ok (.agg #[c12, c13, c14]) W := by
  simp [Instr.index, run_underlying Try.underlying63, asIntOf, show Try.prog.cellsOf 62 = 3 by kernel_rfl, go_sem]
theorem idx_5 (c0 c1 c2 c3 c4 c5 c6 c7 c8 c9 c10 c11 c12 c13 c14 c15 c16 c17 c18 c19 c20 : Value) (W : World) : (Instr.index 63 (.agg #[c0, c1, c2, c3, c4, c5, c6, c7, c8, c9, c10, c11, c12, c13, c14, c15, c16, c17, c18, c19, c20]) (.int .i64 5)).run Try.prog W = .ok (.agg #[c15, c16, c17]) W := by
  simp [Instr.index, run_underlying Try.underlying63, asIntOf, show Try.prog.cellsOf 62 = 3 by kernel_rfl, go_sem]
theorem idx_6 (c0 c1 c2 c3 c4 c5 c6 c7 c8 c9 c10 c11 c12 c13 c14 c15 c16 c17 c18 c19 c20 : Value) (W : World) : (Instr.index 63 (.agg #[c0, c1, c2, c3, c4, c5, c6, c7, c8, c9, c10, c11, c12, c13, c14, c15, c16, c17, c18, c19, c20]) (.int .i64 6)).run Try.prog W = .ok (.agg #[c18, c19, c20]) W := by
  simp [Instr.index, run_underlying Try.underlying63, asIntOf, show Try.prog.cellsOf 62 = 3 by kernel_rfl, go_sem]
theorem wpList_store_new {P : Program} {ops : Array Oper} {rest : List Oper} {o : Oper} {a : Act} {w W0 : World} {Q : Exit → Act → World → Prop} (hgd : o.guard = none) (ty : TypeId) (x y : Operand) (ho : o.op = .store ty x y)
    (r : Nat) (c cells : Array Value) (hr : r = W0.heap.size) (hw : w = W0.alloc (.cells c ty)) (hx : a.eval x = .pointer (some ⟨r, 0, none⟩)) (hy : a.eval y = .agg cells)
    (hi : (P.info? ty).map (·.size) = some cells.size) (hold : c.size = cells.size) (h1 : cells.all (·.oneCell') = true)
    (h : wpList P ops Q rest (a.put o.dst undef) (W0.alloc (.cells cells ty))) : wpList P ops Q (o :: rest) a w := by
  subst hr hw
  rw [← World.setRow_alloc_new W0 c cells ty] at h
  exact wpList_store_row hgd ty x y ho _ cells hx hy ty c (heap_alloc_last _ _) hi hold h1 h
def ckTab (t : Wt) : Array Value := #[.int .i64 t.errors, .int .i64 1, .int .i64 100, .int .i64 t.window, .int .i64 1, .int .i64 10000, .int .i64 t.dev, .int .i64 0, .int .i64 100, .int .i64 t.slow, .int .i64 0, .int .i64 10000, .int .i64 t.share, .int .i64 0, .int .i64 100, .int .i64 t.base, .int .i64 1, .int .i64 10000, .int .i64 t.top, .int .i64 t.base, .int .i64 10000]
theorem ckTab_idx (t : Wt) (j : Nat) (hj : j < 7) (W : World) : (Instr.index 63 (.agg (ckTab t)) (.int .i64 j)).run Try.prog W = .ok (.agg #[.int .i64 (ckRow t j).1, .int .i64 (ckRow t j).2.1, .int .i64 (ckRow t j).2.2]) W := by
  rcases (show j = 0 ∨ j = 1 ∨ j = 2 ∨ j = 3 ∨ j = 4 ∨ j = 5 ∨ j = 6 by omega) with rfl | rfl | rfl | rfl | rfl | rfl | rfl
  · exact idx_0 ..
  · exact idx_1 ..
  · exact idx_2 ..
  · exact idx_3 ..
  · exact idx_4 ..
  · exact idx_5 ..
  · exact idx_6 ..
set_option maxRecDepth 100000 in
set_option maxHeartbeats 4000000 in
theorem check_any (t : Wt) (w : World) : Calls Try.prog 21 #[t.val] w (CkPost t w) := by
  have HX := Lib.hid (fun j hj W => ckTab_idx t j hj W)
  have HZ := Lib.hid (OkTo.zero t)
  have HLO : Hid (∀ j, j < 7 → (ckRow t j).1 < (ckRow t j).2.1 → ckV t = 8) := Lib.hid fun j hj h => ckV_low hj h
  have HHI : Hid (∀ j, j < 7 → (ckRow t j).2.2 < (ckRow t j).1 → ckV t = 8) := Lib.hid fun j hj h => ckV_high hj h
  have HOK : Hid (∀ j, OkTo t j → (ckRow t j).2.1 ≤ (ckRow t j).1 → (ckRow t j).1 ≤ (ckRow t j).2.2 → OkTo t (j + 1)) := Lib.hid fun j h h1 h2 => h.next h1 h2
  have HEN : Hid (OkTo t 7 → ckV t = 0) := Lib.hid fun h => ckV_ok h
  unfold CkPost
  obtain ⟨c, hc⟩ : ∃ c, ckV t = c := ⟨_, rfl⟩
  rw [hc] at HLO HHI HEN ⊢
  clear hc
  have HT : Hid ((ckTab t).size = 21 ∧ (ckTab t).all (·.oneCell') = true) := Lib.hid ⟨rfl, by simp [ckTab, Value.oneCell']⟩
  have HV : Hid (t.val = .agg #[.int .i64 t.errors, .int .i64 t.window, .int .i64 t.dev, .int .i64 t.slow, .int .i64 t.share, .int .i64 t.base, .int .i64 t.top] ∧ ckTab t = #[.int .i64 t.errors, .int .i64 1, .int .i64 100, .int .i64 t.window, .int .i64 1, .int .i64 10000, .int .i64 t.dev, .int .i64 0, .int .i64 100, .int .i64 t.slow, .int .i64 0, .int .i64 10000, .int .i64 t.share, .int .i64 0, .int .i64 100, .int .i64 t.base, .int .i64 1, .int .i64 10000, .int .i64 t.top, .int .i64 t.base, .int .i64 10000]) := Lib.hid ⟨rfl, rfl⟩
  obtain ⟨T, hT⟩ : ∃ T, ckTab t = T := ⟨_, rfl⟩
  rw [HV.out.1]
  rw [hT] at HT HX
  have HTT := Lib.hid (HV.out.2.symm.trans hT)
  clear HV hT
  generalize t.errors = a0 at *
  generalize t.window = a1 at *
  generalize t.dev = a2 at *
  generalize t.slow = a3 at *
  generalize t.share = a4 at *
  generalize t.base = a5 at *
  generalize t.top = a6 at *
  have HB : Hid (∀ W b, Below w.heap.size w W → Below w.heap.size w (W.alloc b)) := Lib.hid fun W b h => h.alloc h.size _
  have HB0 : Hid (Below w.heap.size w w) := Lib.hid (Below.refl _ _)
  go_enter Try.func21, Try.ntmps21
  go_upto_region 1 with fail
  iterate 76 go_step
  refine wpList_store_new rfl _ _ _ rfl (w.heap.size + 1) _ _ (by simp) rfl rfl rfl (by kernel_rfl) (by rfl) (by rw [HTT.out]; exact HT.out.2) ?_
  rw [HTT.out]
  have HW2 : Hid (∃ W X, W = (w.alloc (.cells #[.int .i64 a0, .int .i64 a1, .int .i64 a2, .int .i64 a3, .int .i64 a4, .int .i64 a5, .int .i64 a6] 24)).alloc (.cells T 63) ∧ X = w.heap.size + 1 ∧ W.heap[X]? = some (.cells T 63 (0, 0)) ∧ Below w.heap.size w W) := Lib.hid
    ⟨_, _, rfl, rfl, by simpa using heap_alloc_last (w.alloc (.cells #[.int .i64 a0, .int .i64 a1, .int .i64 a2, .int .i64 a3, .int .i64 a4, .int .i64 a5, .int .i64 a6] 24)) (.cells T 63), HB.out _ _ (HB.out _ _ HB0.out)⟩
  obtain ⟨W2, X, hW2, hX, hg, hbel⟩ := HW2.out
  rw [← hX, ← hW2]
  have HG := Lib.hid hg
  have HBL := Lib.hid hbel
  clear HW2 hW2 hX hg hbel HTT HB0
  go_upto_region 2 with fail
  go_step
  refine wpList_load_row rfl _ _ rfl X rfl _ T _ _ HG.out Try.underlying63 rfl (by rw [HT.out.1]; kernel_rfl) ?_
  clear HG HT
  go_wp2_with fail
  go_loopw [31] (fun iv wr => ∃ j : Nat, j ≤ 7 ∧ iv = .int .i64 j ∧ Hid (Below w.heap.size w wr) ∧ Hid (OkTo t j)) (fun i _ => 7 - (intOf i).toNat)
  case atStart => exact ⟨0, by omega, rfl, HBL, HZ⟩
  case round =>
    obtain ⟨j, hj, rfl, HW, HK⟩ := hrel
    clear HZ HBL
    by_cases hj7 : j < 7
    · have hix := HX.out j hj7
      have HL := Lib.hid (HLO.out j hj7)
      have HH := Lib.hid (HHI.out j hj7)
      have HN := Lib.hid (HOK.out j HK.out)
      obtain ⟨x, hx⟩ : ∃ x, (ckRow t j).1 = x := ⟨_, rfl⟩
      obtain ⟨lo, hlo⟩ : ∃ x, (ckRow t j).2.1 = x := ⟨_, rfl⟩
      obtain ⟨hi, hhi⟩ : ∃ x, (ckRow t j).2.2 = x := ⟨_, rfl⟩
      rw [hx, hlo, hhi] at hix
      rw [hx, hlo] at HL
      rw [hx, hhi] at HH
      rw [hx, hlo, hhi] at HN
      have j1 : (j : Int) < 7 := by omega
      clear hx hlo hhi HLO HHI HOK HEN HX hj
      by_cases h1 : x < lo
      · obtain rfl : c = 8 := HL.out h1
        go_wp2_with fail
        go_ret
        exact ⟨rfl, HB.out _ _ HW.out⟩
      · by_cases h2 : x > hi
        · obtain rfl : c = 8 := HH.out h2
          go_wp2_with fail
          go_ret
          exact ⟨rfl, HB.out _ _ HW.out⟩
        · have HN2 := Lib.hid (HN.out (by omega) (by omega))
          go_wp2_with fail
          go_roundw
          case rel => exact ⟨j + 1, by omega, by go_num, Lib.hid (HB.out _ _ HW.out), HN2⟩
          case measure => simp [intOf] <;> omega
    · obtain rfl : j = 7 := by omega
      obtain rfl : c = 0 := HEN.out HK.out
      go_wp2_with fail
      go_ret
      exact ⟨rfl, HW.out⟩
end Go.Proofs.Ytfmgcnmikopgeaa
