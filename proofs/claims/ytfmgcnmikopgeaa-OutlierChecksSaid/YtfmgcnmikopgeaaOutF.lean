/- Layer 14: an attempt that was well. -/
import Derived.Test.YtfmgcnmikopgeaaOutE
namespace Go.Proofs.Ytfmgcnmikopgeaa
open Go.RowKit
def skNums : Option (Nat × Nat × List Nat) → List Nat
  | none => []
  | some (_, _, l) => l
def WentPost (base b : Nat) (t : Wt) (frm : Int) (m N : Nat) (B : Nat → Nat) (S : Nat → Es) (i n : Nat) (w : World) (e : Ending) (w' : World) : Prop :=
  ∃ sk, e = .returned (.tuple #[]) ∧ skNums sk = skNums (S i).sk ++ [n] ∧ GPost base b t frm m N B (upd S i ⟨(S i).row, (S i).times, (S i).ej, (S i).untl, (S i).att, (S i).well + 1, sk⟩) w w'
set_option maxRecDepth 100000 in
set_option maxHeartbeats 2000000 in
theorem went_any (base b : Nat) (t : Wt) (frm : Int) (m N : Nat) (B : Nat → Nat) (S : Nat → Es) (i n : Nat) (w : World) (h : GAt base w b t frm m N B S) (hi : i < N) (hbw : base ≤ w.heap.size) (hn : n < 4611686018427387904) (hl : (skNums (S i).sk).length ≤ 1000) (hw0 : 0 ≤ (S i).well) (hw1 : (S i).well ≤ 1000000) :
    Calls Try.prog 24 #[.pointer (some ⟨B i, 4, none⟩), .int .i64 n] w (WentPost base b t frm m N B S i n w) := by
  have HG := Lib.hid h
  have he := h.ends i hi
  have HE := Lib.hid he
  have HI := Lib.hid (And.intro hi (And.intro hbw (h.low.2 i hi)))
  have hbl := he.lt
  obtain ⟨sk, hsk⟩ : ∃ sk, (S i).sk = sk := ⟨_, rfl⟩
  have d5 := he.cell 5 _ rfl
  have d6 := he.cell 6 _ rfl
  have f5 := he.free 5
  have f6 := he.free 6
  rw [hsk] at d6 hl
  have HSK := Lib.hid hsk
  obtain ⟨wl, hwl⟩ : ∃ x, (S i).well = x := ⟨_, rfl⟩
  have HWL := Lib.hid hwl
  rw [hwl] at d5 hw0 hw1
  have hn1 : (n : Int) < 4611686018427387904 := by omega
  cases sk with
  | none =>
    have CN := Lib.hid (newSk_any w)
    have d6' : w.cell? ⟨B i, 6, none⟩ = some (.pointer none) := d6
    have HN := Lib.hid hn
    clear h hi he hsk hwl hbw d6 hl hn
    go_enter Try.func24, Try.ntmps24
    go_wp2_with fail
    refine CN.out.mono ?_
    rintro e w1 ⟨rfl, hs1, hu1⟩
    obtain ⟨b1, hb1⟩ : ∃ b1, w.heap.size + 1 = b1 := ⟨_, rfl⟩
    obtain ⟨m1, hm1⟩ : ∃ m1, w.heap.size = m1 := ⟨_, rfl⟩
    have hs1' : SkAt w1 b1 m1 [] := by rw [← hb1, ← hm1]; exact hs1
    rw [hb1]
    have hE1 := HE.out.keep hu1 (by simp)
    have e5 := hE1.cell 5 _ rfl
    have e6 : w1.cell? ⟨B i, 6, none⟩ = some (.pointer none) := by have := hE1.cell 6 _ rfl; rw [HSK.out] at this; exact this
    rw [HWL.out] at e5
    have g5 := hE1.free 5
    have g6 := hE1.free 6
    have hu2 : Upd [B i] w1 ((w1.setCell ⟨B i, 6, none⟩ (.pointer (some ⟨b1, 0, none⟩))).setCell ⟨B i, 5, none⟩ (.int .i64 (wl + 1))) := (Upd.setCell' _ _ _ (by simp)).trans (Upd.setCell' _ _ _ (by simp))
    have hE2 := (hE1.set 6 (.pointer (some ⟨b1, 0, none⟩))).set 5 (.int .i64 (wl + 1))
    have hs2 := hs1'.keep hu2 (by simp; omega) (by simp; omega)
    have HU := Lib.hid (hu1.nil_trans hu2)
    have HB := Lib.hid (show w.heap.size ≤ m1 ∧ m1 < b1 by omega)
    have HE2 := Lib.hid hE2
    have HS2 := Lib.hid hs2
    obtain ⟨W2, hW2⟩ : ∃ W, ((w1.setCell ⟨B i, 6, none⟩ (.pointer (some ⟨b1, 0, none⟩))).setCell ⟨B i, 5, none⟩ (.int .i64 (wl + 1))) = W := ⟨_, rfl⟩
    have HW2 := Lib.hid hW2
    rw [hW2] at HU HE2 HS2
    have CA := Lib.hid (add_any b1 m1 [] n W2 HS2.out (by simp) HN.out)
    clear hs1 hu1 hb1 hm1 hs1' hE1 hu2 hE2 hs2 hW2 CN d5 d6' f5 f6
    go_wp2_with fail
    rw [HW2.out]
    refine CA.out.mono ?_
    rintro e w3 ⟨rfl, hs3, hu3⟩
    have HS3 := Lib.hid (And.intro hs3 hu3)
    clear hs3 hu3 CA
    go_wp2_with fail
    go_end0
    have hu4 : Upd [B i, b1, m1] w w3 := (HU.out.mono (by simp)).trans (HS3.out.2.mono (by simp))
    have hbl2 : ¬ B i = b1 ∧ ¬ B i = m1 := by have := HB.out; omega
    have hE3 := HE2.out.keep HS3.out.2 (by simp; exact hbl2)
    refine ⟨some (b1, m1, [] ++ [n]), rfl, by rw [HSK.out]; rfl, HG.out.turn HI.out.1 hu4 ?_ ?_ ?_, GStep.of hu4 HI.out.2.1 ?_⟩
    · intro q hq
      have := HB.out
      simp at hq
      rcases hq with rfl | rfl | rfl
      · exact .inl rfl
      · exact .inr (.inr (by omega))
      · exact .inr (.inr (by omega))
    · rw [HWL.out]
      have h0 : ((S i).cells.set 6 (.pointer (some ⟨b1, 0, none⟩))).set 5 (.int .i64 (wl + 1)) = (Es.mk (S i).row (S i).times (S i).ej (S i).untl (S i).att (wl + 1) (some (b1, m1, [] ++ [n]))).cells := rfl
      rw [← h0]; exact hE3
    · rintro sb sm l hh
      cases hh
      have := HB.out
      exact ⟨HS3.out.1, .inr ⟨by omega, by omega, HI.out.2.1⟩⟩
    · intro q hq
      have := HB.out
      have := HI.out
      simp at hq
      rcases hq with rfl | rfl | rfl
      · exact HG.out.freeE HI.out.1
      · exact ⟨by omega, .new (by omega)⟩
      · exact ⟨by omega, .new (by omega)⟩
  | some x =>
    obtain ⟨sb, sm, l⟩ := x
    obtain ⟨hs0, -⟩ := h.sks i hi sb sm l hsk
    have hne1 : ¬ B i = sb := btype_ne he hs0.1 (by decide)
    have hne2 : ¬ B i = sm := by obtain ⟨k1, es', c', k2, k3⟩ := hs0; exact bmap_ne he k2
    have hlow := (h.sks i hi sb sm l hsk).2
    have hu2 : Upd [B i] w (w.setCell ⟨B i, 5, none⟩ (.int .i64 (wl + 1))) := Upd.setCell' _ _ _ (by simp)
    have hE2 := he.set 5 (.int .i64 (wl + 1))
    have hs2 := hs0.keep hu2 (by simp; exact fun e => hne1 e.symm) (by simp; exact fun e => hne2 e.symm)
    have d6' : w.cell? ⟨B i, 6, none⟩ = some (.pointer (some ⟨sb, 0, none⟩)) := d6
    have HU := Lib.hid hu2
    have HE2 := Lib.hid hE2
    have HS2 := Lib.hid hs2
    have HLW := Lib.hid hlow
    obtain ⟨W2, hW2⟩ : ∃ W, w.setCell ⟨B i, 5, none⟩ (.int .i64 (wl + 1)) = W := ⟨_, rfl⟩
    have HW2 := Lib.hid hW2
    rw [hW2] at HU HE2 HS2
    have CA := Lib.hid (add_any sb sm l n W2 HS2.out (by simpa [skNums] using hl) hn)
    clear h hi he hsk hwl hbw d6 hl hn hs0 hu2 hE2 hs2 hW2 hlow
    go_enter Try.func24, Try.ntmps24
    go_wp2_with fail
    rw [HW2.out]
    refine CA.out.mono ?_
    rintro e w3 ⟨rfl, hs3, hu3⟩
    have HS3 := Lib.hid (And.intro hs3 hu3)
    clear hs3 hu3 CA
    go_wp2_with fail
    go_end0
    have hu4 : Upd [B i, sb, sm] w w3 := (HU.out.mono (by simp)).trans (HS3.out.2.mono (by simp))
    have hE3 := HE2.out.keep HS3.out.2 (by simp; exact ⟨hne1, hne2⟩)
    refine ⟨some (sb, sm, l ++ [n]), rfl, by rw [HSK.out]; rfl, HG.out.turn HI.out.1 hu4 ?_ ?_ ?_, GStep.of hu4 HI.out.2.1 ?_⟩
    · intro q hq
      simp at hq
      rcases hq with rfl | rfl | rfl
      · exact .inl rfl
      · exact .inr (.inl ⟨q, sm, l, HSK.out, .inl rfl⟩)
      · exact .inr (.inl ⟨sb, q, l, HSK.out, .inr rfl⟩)
    · rw [HWL.out]
      have h0 : (S i).cells.set 5 (.int .i64 (wl + 1)) = (Es.mk (S i).row (S i).times (S i).ej (S i).untl (S i).att (wl + 1) (some (sb, sm, l ++ [n]))).cells := by
        unfold Es.cells
        rw [HSK.out]
        rfl
      rw [← h0]; exact hE3
    · rintro sb' sm' l' hh
      cases hh
      exact ⟨HS3.out.1, .inl ⟨l, HSK.out⟩⟩
    · intro q hq
      obtain ⟨⟨k1, es', c', k2, k3⟩, k4⟩ := HG.out.sks i HI.out.1 sb sm l HSK.out
      simp at hq
      rcases hq with rfl | rfl | rfl
      · exact HG.out.freeE HI.out.1
      · exact ⟨k4.1, .block k1 (by decide) (by decide) (by decide) (by decide)⟩
      · exact ⟨k4.2.1, .map k2⟩
end Go.Proofs.Ytfmgcnmikopgeaa
