/- Layer 14: Note. -/
import Derived.Test.YtfmgcnmikopgeaaOutF
import Derived.Deep.RegionHeld3
import Derived.Deep.DeepCutAuto
namespace Go.Proofs.Ytfmgcnmikopgeaa
open Go.RowKit
/-- What is known of an endpoint behind c acts. -/
structure EsOk (c : Int) (s : Es) : Prop where
  r0 : 0 ≤ s.row
  r1 : s.row ≤ c + 1000
  t0 : 0 ≤ s.times
  t1 : s.times ≤ c
  w0 : ((skNums s.sk).length : Int) = s.well
  w1 : s.well ≤ s.att
  a1 : s.att ≤ c
  n : ∀ n ∈ skNums s.sk, n < 1000000
def errE (s : Es) : Es := ⟨s.row + 1, s.times, s.ej, s.untl, s.att + 1, s.well, s.sk⟩
inductive NoteIs (N : Nat) (t : Wt) (S : Nat → Es) (now k : Int) (took : Nat) : Bool → (Nat → Es) → Bool → Prop
  | gone (b : Bool) : ¬ (1 ≤ k ∧ k ≤ (N : Int)) → NoteIs N t S now k took b S false
  | out (b : Bool) (i : Nat) : i < N → k = (i : Int) + 1 → (S i).ej = true → NoteIs N t S now k took b S false
  | well (i : Nat) (sk : Option (Nat × Nat × List Nat)) : i < N → k = (i : Int) + 1 → (S i).ej = false → skNums sk = skNums (S i).sk ++ [took] → NoteIs N t S now k took true (upd S i ⟨0, (S i).times, (S i).ej, (S i).untl, (S i).att + 1, (S i).well + 1, sk⟩) false
  | err (i : Nat) : i < N → k = (i : Int) + 1 → (S i).ej = false → ((S i).row + 1 < t.errors ∨ roomB N t (upd S i (errE (S i))) = false) → NoteIs N t S now k took false (upd S i (errE (S i))) false
  | eject (i : Nat) : i < N → k = (i : Int) + 1 → (S i).ej = false → ¬ (S i).row + 1 < t.errors → roomB N t (upd S i (errE (S i))) = true → NoteIs N t S now k took false (upd S i (ejectE t now (errE (S i)))) true
def NotePost (base b : Nat) (t : Wt) (frm : Int) (m N : Nat) (B : Nat → Nat) (S : Nat → Es) (now k : Int) (took : Nat) (wl : Bool) (w : World) (e : Ending) (w' : World) : Prop :=
  ∃ S' is, NoteIs N t S now k took wl S' is ∧ e = .returned (.bool is) ∧ GPost base b t frm m N B S' w w'
set_option maxRecDepth 100000 in
set_option maxHeartbeats 4000000 in
theorem note_any (base b : Nat) (t : Wt) (frm : Int) (m N : Nat) (B : Nat → Nat) (S : Nat → Es) (now k : Int) (took : Nat) (wl : Bool) (c : Int) (w : World) (h : GAt base w b t frm m N B S) (ht : WtOk t) (hN : (N : Int) ≤ 1000) (hbw : base ≤ w.heap.size) (hc : c ≤ 900) (hS : ∀ i, i < N → EsOk c (S i)) (hn0 : 0 ≤ now) (hn1 : now ≤ 1000000000) (htk : took < 1000000) :
    Calls Try.prog 11 #[.pointer (some ⟨b, 0, none⟩), .int .i64 now, .int .i64 k, .bool wl, .int .i64 took] w (NotePost base b t frm m N B S now k took wl w) := by
  have HG := Lib.hid h
  have HT := Lib.hid (And.intro ht (And.intro hN hbw))
  have c8 := h.blk.cell 8 _ rfl
  have hlk := h.look k
  by_cases hk : 1 ≤ k ∧ k ≤ (N : Int)
  · obtain ⟨i, hi, hik⟩ : ∃ i : Nat, i < N ∧ k = (i : Int) + 1 := ⟨(k - 1).toNat, by omega, by omega⟩
    have hp : ptrOf N B k = .pointer (some ⟨B i, 0, none⟩) := by rw [hik]; exact ptrOf_in hi
    rw [hp] at hlk
    have he := h.ends i hi
    have HE := Lib.hid he
    have hok := hS i hi
    have HOK := Lib.hid hok
    have HI := Lib.hid (And.intro hi (And.intro hik (h.low.2 i hi)))
    have d2 := he.cell 2 _ rfl
    obtain ⟨ej, hej⟩ : ∃ x, (S i).ej = x := ⟨_, rfl⟩
    rw [hej] at d2
    have HEJ := Lib.hid hej
    cases ej with
    | true =>
      clear h ht hN hbw hS hk hi hik hp he hok hej
      go_enter Try.func11, Try.ntmps11
      go_wp2_with fail
      go_ret
      exact ⟨S, false, NoteIs.out wl i HI.out.1 HI.out.2.1 HEJ.out, rfl, HG.out, GStep.refl _ _⟩
    | false =>
      have d4 := he.cell 4 _ rfl
      have f4 := he.free 4
      obtain ⟨at0, hat⟩ : ∃ x, (S i).att = x := ⟨_, rfl⟩
      have HAT := Lib.hid hat
      have ha0 : 0 ≤ at0 ∧ at0 ≤ 1000 := by have := hok.w0; have := hok.w1; have := hok.a1; omega
      rw [hat] at d4
      have hu1 : Upd [B i] w (w.setCell ⟨B i, 4, none⟩ (.int .i64 (at0 + 1))) := Upd.setCell' _ _ _ (by simp)
      have hE1 := he.set 4 (.int .i64 (at0 + 1))
      have hcl : (S i).cells.set 4 (.int .i64 (at0 + 1)) = (Es.mk (S i).row (S i).times (S i).ej (S i).untl ((S i).att + 1) (S i).well (S i).sk).cells := by rw [hat]; rfl
      rw [hcl] at hE1
      have HP1 : Hid (GPost base b t frm m N B (upd S i ⟨(S i).row, (S i).times, (S i).ej, (S i).untl, (S i).att + 1, (S i).well, (S i).sk⟩) w (w.setCell ⟨B i, 4, none⟩ (.int .i64 (at0 + 1)))) := Lib.hid ⟨h.write hi hu1 hE1 (.inr rfl), .of hu1 hbw (by simp; exact h.freeE hi)⟩
      have HS1 := Lib.hid (show w.heap.size ≤ (w.setCell ⟨B i, 4, none⟩ (.int .i64 (at0 + 1))).heap.size from hu1.size)
      obtain ⟨W1, hW1⟩ : ∃ W, w.setCell ⟨B i, 4, none⟩ (.int .i64 (at0 + 1)) = W := ⟨_, rfl⟩
      have HW1 := Lib.hid hW1
      rw [hW1] at HP1 HS1
      clear h ht hN hbw hS hk hi hik hp he hok hej hat hu1 hE1 hcl hW1
      cases wl with
      | true =>
        have CW := Lib.hid (went_any base b t frm m N B _ i took W1 HP1.out.1 HI.out.1 (Nat.le_trans HT.out.2.2 HS1.out) (by omega) (by rw [upd_same]; have := HOK.out.w0; have := HOK.out.w1; have := HOK.out.a1; dsimp only; omega) (by rw [upd_same]; have := HOK.out.w0; dsimp only; omega) (by rw [upd_same]; have := HOK.out.w1; have := HOK.out.a1; dsimp only; omega))
        go_enter Try.func11, Try.ntmps11
        go_wp2_with fail
        rw [HW1.out]
        refine CW.out.mono ?_
        rintro e w2 ⟨sk, rfl, hnum, hg2, hb2⟩
        rw [upd_same] at hnum
        simp only [upd_same, upd_twice] at hg2
        have hE2 := hg2.ends i HI.out.1
        rw [upd_same] at hE2
        have e0 := hE2.cell 0 _ rfl
        have g0 := hE2.free 0
        have hu3 : Upd [B i] w2 (w2.setCell ⟨B i, 0, none⟩ (.int .i64 0)) := Upd.setCell' _ _ _ (by simp)
        have hE3 := hE2.set 0 (.int .i64 0)
        have hg3 := hg2.write (s' := ⟨0, (S i).times, (S i).ej, (S i).untl, (S i).att + 1, (S i).well + 1, sk⟩) HI.out.1 hu3 hE3 (.inr (by rw [upd_same]))
        rw [upd_twice] at hg3
        have HF := Lib.hid (show NotePost base b t frm m N B S now k took true w (.returned (.bool false)) (w2.setCell ⟨B i, 0, none⟩ (.int .i64 0)) from
          ⟨_, false, NoteIs.well i sk HI.out.1 HI.out.2.1 HEJ.out hnum, rfl, hg3, (HP1.out.2.trans hb2).trans (.of hu3 (Nat.le_trans (Nat.le_trans HT.out.2.2 HS1.out) hb2.size) (by simp; exact hg2.freeE HI.out.1))⟩)
        clear hnum hg2 hb2 hE2 hu3 hE3 hg3 CW
        go_wp2_with fail
        go_ret
        exact HF.out
      | false =>
        have hE1 := HP1.out.1.ends i HI.out.1
        rw [upd_same] at hE1
        have e0 := hE1.cell 0 _ rfl
        have g0 := hE1.free 0
        dsimp only at e0
        obtain ⟨r0, hr0⟩ : ∃ x, (S i).row = x := ⟨_, rfl⟩
        have HR0 := Lib.hid hr0
        have hrb : 0 ≤ r0 ∧ r0 ≤ 2000 := by have := HOK.out.r0; have := HOK.out.r1; omega
        rw [hr0] at e0
        have hu2 : Upd [B i] W1 (W1.setCell ⟨B i, 0, none⟩ (.int .i64 (r0 + 1))) := Upd.setCell' _ _ _ (by simp)
        have hE2 := hE1.set 0 (.int .i64 (r0 + 1))
        have hcl2 : (Es.mk (S i).row (S i).times (S i).ej (S i).untl ((S i).att + 1) (S i).well (S i).sk).cells.set 0 (.int .i64 (r0 + 1)) = (errE (S i)).cells := by rw [← hr0]; rfl
        rw [hcl2] at hE2
        have hg2 := HP1.out.1.write (s' := errE (S i)) HI.out.1 hu2 hE2 (.inr (by rw [upd_same]; rfl))
        rw [upd_twice] at hg2
        have hb2 := HP1.out.2.trans (.of hu2 (Nat.le_trans HT.out.2.2 HS1.out) (by simp; exact HP1.out.1.freeE HI.out.1))
        obtain ⟨W2, hW2⟩ : ∃ W, W1.setCell ⟨B i, 0, none⟩ (.int .i64 (r0 + 1)) = W := ⟨_, rfl⟩
        have HW2 := Lib.hid hW2
        have hsz2 := hu2.size
        rw [hW2] at hg2 hb2 hsz2
        obtain ⟨S2, hS2⟩ : ∃ S2, upd S i (errE (S i)) = S2 := ⟨_, rfl⟩
        have HS2 := Lib.hid hS2
        rw [hS2] at hg2
        have HP2 := Lib.hid (And.intro hg2 hb2)
        have HZ2 := Lib.hid (show base ≤ W2.heap.size by have := HT.out.2.2; have := HS1.out; omega)
        have ewr := IntWalk.i64_in (r0 + 1) (by omega)
        have HER := Lib.hid (show (S2 i).row = r0 + 1 by rw [← hS2, upd_same, ← hr0]; rfl)
        have d0 : w.cell? ⟨B i, 0, none⟩ = some (.int .i64 r0) := by have := HE.out.cell 0 _ rfl; rw [hr0] at this; exact this
        have f0 := HE.out.free 0
        clear hE1 hr0 hu2 hE2 hcl2 hg2 hb2 hW2 hsz2 hS2 e0 g0
        go_enter Try.func11, Try.ntmps11
        go_upto_region 10 with fail
        rw [HW1.out]
        rw [HW2.out]
        have hE3 := HP2.out.1.ends i HI.out.1
        have c0 := HP2.out.1.blk.cell 0 _ rfl
        have e0 := hE3.cell 0 _ rfl
        rw [HER.out] at e0
        clear hE3 d0 f0 d2 d4 f4 hlk c8
        obtain ⟨er, her⟩ : ∃ x, t.errors = x := ⟨_, rfl⟩
        have HERR := Lib.hid her
        rw [her] at c0
        obtain ⟨R, hR⟩ : ∃ R, roomB N t S2 = R := ⟨_, rfl⟩
        have CR := Lib.hid (fun W (h : Hid (GAt base W b t frm m N B S2 ∧ GStep base w W ∧ base ≤ W.heap.size)) => (room_any base b t frm m N B S2 W h.out.1 HT.out.2.1 HT.out.1.s0 HT.out.1.s1).mono (fun e W' (k : RoomPost N t S2 W e W') => (show e = .returned (.bool R) ∧ W'.cell? ⟨B i, 0, none⟩ = some (.int .i64 (r0 + 1)) ∧ W'.cell? ⟨b, 0, none⟩ = some (.int .i64 er) ∧ Hid (GAt base W' b t frm m N B S2 ∧ GStep base w W' ∧ base ≤ W'.heap.size) from by
          have hg := h.out.1.next (Upd.ofBelow k.2)
          have k0 := (hg.ends i HI.out.1).cell 0 _ rfl
          have k1 := hg.blk.cell 0 _ rfl
          rw [HER.out] at k0
          rw [HERR.out] at k1
          exact ⟨by rw [← hR]; exact k.1, k0, k1, Lib.hid ⟨hg, h.out.2.1.trans (.ofBelow k.2 h.out.2.2), Nat.le_trans h.out.2.2 k.2.size⟩⟩)))
        have HRR := Lib.hid hR
        have HPd : Hid (GAt base W2.drew b t frm m N B S2 ∧ GStep base w W2.drew ∧ base ≤ W2.drew.heap.size) := Lib.hid ⟨HP2.out.1.next (Upd.drew [] W2), HP2.out.2.trans (.of (Upd.drew [] W2) HZ2.out (by simp)), HZ2.out⟩
        clear her hR
        go_cut [65] (fun s wx => s = .bool (decide (r0 + 1 < er) || !R) ∧ Hid (GAt base wx b t frm m N B S2 ∧ GStep base w wx ∧ base ≤ wx.heap.size))
        case first =>
          by_cases hlt : r0 + 1 < er
          · have hl1 : decide (r0 + 1 < er) = true := by simpa using hlt
            have HPn : ∀ n, Hid (GAt base (W2.drewN n) b t frm m N B S2 ∧ GStep base w (W2.drewN n) ∧ base ≤ (W2.drewN n).heap.size) := fun n => Lib.hid ⟨HP2.out.1.next (Upd.drewN [] W2 n), HP2.out.2.trans (.of (Upd.drewN [] W2 n) HZ2.out (by simp)), HZ2.out⟩
            clear CR HPd
            go_quiet (fail)
            go_wp2_with fail
            go_meet
            exact ⟨by rw [hl1]; rfl, HPn _⟩
          · have hl1 : decide (r0 + 1 < er) = false := by simpa using hlt
            go_region_held3 (fun W => W.cell? ⟨B i, 0, none⟩ = some (.int .i64 (r0 + 1)) ∧ W.cell? ⟨b, 0, none⟩ = some (.int .i64 er) ∧ Hid (GAt base W b t frm m N B S2 ∧ GStep base w W ∧ base ≤ W.heap.size))
              (first | assumption | exact ⟨e0, c0, HPd⟩ | exact ⟨by assumption, by assumption, by assumption⟩)
              (first
                | (go_at_call 25; with_reducible refine (CR.out _ (by assumption)).mono ?_; rintro e w' ⟨rfl, k0, k1, kp⟩))
            all_goals go_wp2_with fail
            all_goals go_meet
            all_goals exact ⟨by rw [hl1]; rfl, kp⟩
        case rest =>
          obtain ⟨rfl, HP3⟩ := hcut
          clear c0 e0 CR HPd
          obtain ⟨D, hD⟩ : ∃ D, (decide (r0 + 1 < er) || !R) = D := ⟨_, rfl⟩
          rw [hD]
          have HD := Lib.hid hD
          clear hD
          cases D with
          | true =>
            have HF := Lib.hid (show NotePost base b t frm m N B S now k took false w (.returned (.bool false)) wc from by
              refine ⟨S2, false, ?_, rfl, HP3.out.1, HP3.out.2.1⟩
              rw [← HS2.out]
              refine NoteIs.err i HI.out.1 HI.out.2.1 HEJ.out ?_
              rw [HS2.out, HRR.out, HR0.out, HERR.out]
              have := HD.out
              simp at this
              exact this)
            go_wp2_with fail
            go_ret
            exact HF.out
          | false =>
            have hd := HD.out
            rw [Bool.or_eq_false_iff] at hd
            have hS2i : S2 i = errE (S i) := by rw [← HS2.out, upd_same]
            have CE := Lib.hid (eject_any base b t frm m N B S2 i now wc HP3.out.1 HT.out.1 HI.out.1 HP3.out.2.2 (by rw [hS2i]; exact HOK.out.t0) (by rw [hS2i]; have := HOK.out.t1; show (S i).times ≤ 1000000; omega) hn0 hn1)
            have HN := Lib.hid (show NoteIs N t S now k took false (upd S2 i (ejectE t now (S2 i))) true from by
              rw [hS2i, ← HS2.out, upd_twice]
              refine NoteIs.eject i HI.out.1 HI.out.2.1 HEJ.out ?_ ?_
              · rw [HR0.out, HERR.out]; simpa using hd.1
              · rw [HS2.out, HRR.out]; simpa using hd.2)
            clear hd hS2i
            go_wp2_with fail
            refine CE.out.mono ?_
            rintro e w5 ⟨rfl, hg5, hb5⟩
            have HF := Lib.hid (show NotePost base b t frm m N B S now k took false w (.returned (.bool true)) w5 from ⟨_, true, HN.out, rfl, hg5, HP3.out.2.1.trans hb5⟩)
            clear hg5 hb5 CE
            go_wp2_with fail
            go_ret
            exact HF.out
  · rw [ptrOf_out hk] at hlk
    have HK := Lib.hid hk
    clear h ht hN hbw hS hk
    go_enter Try.func11, Try.ntmps11
    go_wp2_with fail
    go_ret
    exact ⟨S, false, NoteIs.gone wl HK.out, rfl, HG.out, GStep.refl _ _⟩
end Go.Proofs.Ytfmgcnmikopgeaa
