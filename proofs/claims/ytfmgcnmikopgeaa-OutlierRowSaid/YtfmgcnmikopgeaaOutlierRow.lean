/- Layer 14: the walk of OutlierRow. -/
import Derived.Test.YtfmgcnmikopgeaaOutRowA
import Derived.Deep.CutBlock
import Derived.Deep.DeepCutAuto
namespace Go.Proofs.Ytfmgcnmikopgeaa
open Go.RowKit
/-- The guard of the law, the watch beside it. -/
structure RG (w W : World) (X b m : Nat) (B : Nat → Nat) (t : Wt) (S : Nat → Es) : Prop where
  g : GAt w.heap.size W b t 0 m 4 B S
  st : Below w.heap.size w W
  x : BlockAt W X 24 t.cells
theorem RG.next {w W W' : World} {X b m : Nat} {B : Nat → Nat} {t : Wt} {S : Nat → Es} (h : RG w W X b m B t S) (hb : Below W.heap.size W W') : RG w W' X b m B t S := ⟨h.g.next (Upd.ofBelow hb), h.st.trans (hb.mono h.st.size), h.x.keep (Upd.ofBelow hb) (by simp)⟩
theorem RG.until {w W : World} {X b m : Nat} {B : Nat → Nat} {t : Wt} {S : Nat → Es} (h : RG w W X b m B t S) {k u : Int} (hu : untlOf 4 S k = u) : Calls Try.prog 17 #[.pointer (some ⟨b, 0, none⟩), .int .i64 k] W fun e W' => e = .returned (.int .i64 u) ∧ W = W' :=
  (until_any w.heap.size b t 0 m 4 B S k W h.g).mono (fun _ _ ⟨h1, h2⟩ => ⟨by rw [← hu]; exact h1, h2⟩)
theorem untl_2 (S : Nat → Es) : untlOf 4 S 2 = (S 1).untl := rfl
theorem untl_1 (S : Nat → Es) : untlOf 4 S 1 = (S 0).untl := rfl
theorem untl_3 (S : Nat → Es) : untlOf 4 S 3 = (S 2).untl := rfl
/-- The watch's cells, and nothing written below. -/
structure WC (w W : World) (X : Nat) (t : Wt) : Prop where
  c0 : W.cell? ⟨X, 0, none⟩ = some (.int .i64 t.errors)
  c1 : W.cell? ⟨X, 1, none⟩ = some (.int .i64 t.window)
  c2 : W.cell? ⟨X, 2, none⟩ = some (.int .i64 t.dev)
  c3 : W.cell? ⟨X, 3, none⟩ = some (.int .i64 t.slow)
  c4 : W.cell? ⟨X, 4, none⟩ = some (.int .i64 t.share)
  c5 : W.cell? ⟨X, 5, none⟩ = some (.int .i64 t.base)
  c6 : W.cell? ⟨X, 6, none⟩ = some (.int .i64 t.top)
  h : Hid (BlockAt W X 24 t.cells ∧ Below w.heap.size w W)
theorem WC.of {w W : World} {X : Nat} {t : Wt} (h : BlockAt W X 24 t.cells) (hb : Below w.heap.size w W) : WC w W X t :=
  ⟨h.cell 0 _ rfl, h.cell 1 _ rfl, h.cell 2 _ rfl, h.cell 3 _ rfl, h.cell 4 _ rfl, h.cell 5 _ rfl, h.cell 6 _ rfl, Lib.hid ⟨h, hb⟩⟩
theorem ends_wc {w : World} {X : Nat} {t : Wt} (W : World) (h : Hid (BlockAt W X 24 t.cells ∧ Below w.heap.size w W)) : Calls Try.prog 9 #[] W fun e W' => ∃ g, e = .returned (.slice (some ⟨g, 0, none⟩) 4 4) ∧ Hid (IntsIn W' (.slice (some ⟨g, 0, none⟩) 4 4) (rise 4)) ∧ WC w W' X t :=
  (ends_any W).mono (fun _ _ ⟨h1, h2, h3⟩ => ⟨_, h1, Lib.hid h2, .of (h.out.1.keep (Upd.ofBelow h3) (by simp)) (h.out.2.trans (h3.mono h.out.2.size))⟩)
theorem new_wc {w : World} {X : Nat} {t : Wt} (W : World) (g : Nat) (h : Hid (BlockAt W X 24 t.cells ∧ Below w.heap.size w W)) (hi : Hid (IntsIn W (.slice (some ⟨g, 0, none⟩) 4 4) (rise 4))) : Calls Try.prog 8 #[t.val, .slice (some ⟨g, 0, none⟩) 4 4] W fun e W' => ∃ b m B, e = .returned (.pointer (some ⟨b, 0, none⟩)) ∧ Hid (GAt w.heap.size W' b t 0 m 4 B (fun _ => zeroE)) ∧ WC w W' X t :=
  (new_any t _ 4 W hi.out (by decide)).mono (fun _ _ ⟨b, m, B, h1, h2, h3⟩ => ⟨b, m, B, h1, Lib.hid (h2.base_le h.out.2.size), .of (h.out.1.keep (Upd.ofBelow h3) (by simp)) (h.out.2.trans (h3.mono h.out.2.size))⟩)
def NoteR (w W : World) (X b m : Nat) (B : Nat → Nat) (t : Wt) (S : Nat → Es) (wl : Bool) (e : Ending) (W' : World) : Prop := ∃ S' is, e = .returned (.bool is) ∧ NoteIs 4 t S 1 2 1 wl S' is ∧ RG w W' X b m B t S'
theorem RG.note {w W : World} {X b m : Nat} {B : Nat → Nat} {t : Wt} {S : Nat → Es} (h : RG w W X b m B t S) (ht : WtOk t) {c : Int} (hc : c ≤ 900) (hS : ∀ i, i < 4 → EsOk c (S i)) (wl : Bool) : Calls Try.prog 11 #[.pointer (some ⟨b, 0, none⟩), .int .i64 1, .int .i64 2, .bool wl, .int .i64 1] W (NoteR w W X b m B t S wl) :=
  (note_any w.heap.size b t 0 m 4 B S 1 2 1 wl c W h.g ht (by decide) h.st.size hc hS (by decide) (by decide) (by decide)).mono (fun _ _ ⟨S', is, h1, h2, h3, h4⟩ => ⟨S', is, h2, h1, h3, h.st.trans h4.below, h4.kept.watch h.x⟩)
set_option maxRecDepth 100000 in
set_option maxHeartbeats 4000000 in
theorem row_walk (n er at0 : Int) (w : World) (hn1 : -9223372036854775808 ≤ n) (hn2 : n ≤ 9223372036854775807) (he1 : -9223372036854775808 ≤ er) (he2 : er ≤ 9223372036854775807) (ha1 : -9223372036854775808 ≤ at0) (ha2 : at0 ≤ 9223372036854775807) :
    Calls Try.prog 4 #[.int .i64 n, .int .i64 er, .int .i64 at0] w (TruePost w) := by
  have CW := Lib.hid (watch_any n w hn1 hn2)
  have CK := Lib.hid (fun w => around_any er 9 w he1 he2 (by omega))
  have CA := Lib.hid (fun w => around_any at0 9 w ha1 ha2 (by omega))
  have k0 := around_nonneg er 9 (by omega)
  have k1 := around_lt er 9 (by omega)
  obtain ⟨k, hk⟩ : ∃ k : Nat, around er 9 = (k : Int) := ⟨(around er 9).toNat, by omega⟩
  rw [hk] at CK k0 k1
  have a0 := around_nonneg at0 9 (by omega)
  have a1 := around_lt at0 9 (by omega)
  obtain ⟨wl, hwl⟩ : ∃ k : Nat, around at0 9 = (k : Int) := ⟨(around at0 9).toNat, by omega⟩
  rw [hwl] at CA a0 a1
  have HOK := Lib.hid (watchN_ok n)
  obtain ⟨t, ht⟩ : ∃ t, tRow n = t := ⟨_, rfl⟩
  have HT := Lib.hid (show WtOk t by rw [← ht]; exact tRow_ok n)
  have HTB := Lib.hid (show 1 ≤ t.base ∧ t.base ≤ 10000 ∧ t.base ≤ t.top ∧ t.top ≤ 10000 ∧ t.share = 100 ∧ 1 ≤ t.errors ∧ t.errors ≤ 4 by
    rw [← ht]
    have h := watchN_ok n
    exact ⟨h.b0, by have := h.b1; show (watchN n).base ≤ 10000; omega, h.t0, by have := h.t1; show (watchN n).top ≤ 10000; omega, rfl, h.e0, h.e1⟩)
  have HTC := Lib.hid (show (watchN n).cells.set 4 (.int .i64 100) = t.cells by rw [← ht]; rfl)
  clear hn1 hn2 he1 he2 ha1 ha2 hk hwl ht
  go_enter Try.func4, Try.ntmps4
  go_wp2_with fail
  refine CW.out.mono ?_
  rintro e w1 ⟨rfl, hb1⟩
  unfold Wt.val
  have HW2 : Hid (∃ W X, W = w1.alloc (.cells #[.int .i64 (watchN n).errors, .int .i64 (watchN n).window, .int .i64 (watchN n).dev, .int .i64 (watchN n).slow, .int .i64 100, .int .i64 (watchN n).base, .int .i64 (watchN n).top] 24) ∧ X = w1.heap.size ∧ BlockAt W X 24 t.cells ∧ Below w.heap.size w W) := Lib.hid
    ⟨_, _, rfl, rfl, by rw [← HTC.out]; exact BlockAt.new w1 24 ((watchN n).cells.set 4 (.int .i64 100)), hb1.alloc hb1.size _⟩
  clear hb1 CW
  go_upto_region 3 with fail
  obtain ⟨W2, X, hW2, hX, hbx, hb2⟩ := HW2.out
  rw [← hX]
  rw [← hW2]
  have HPd : Hid (BlockAt W2.drew X 24 t.cells ∧ Below w.heap.size w W2.drew) := Lib.hid ⟨hbx, hb2.trans ((Upd.drew [] W2).below hb2.size (by simp))⟩
  obtain ⟨c0, c1, c2, c3, c4, c5, c6, -⟩ := WC.of HPd.out.1 HPd.out.2
  have E1 := Lib.hid (fun W => @ends_wc w X t W)
  have E2 := Lib.hid (fun W g => @new_wc w X t W g)
  unfold Wt.val at E2
  clear HW2 hW2 hX hbx hb2
  go_region_held3 (fun W => W.cell? ⟨X, 0, none⟩ = some (.int .i64 t.errors) ∧ W.cell? ⟨X, 1, none⟩ = some (.int .i64 t.window) ∧ W.cell? ⟨X, 2, none⟩ = some (.int .i64 t.dev) ∧ W.cell? ⟨X, 3, none⟩ = some (.int .i64 t.slow) ∧ W.cell? ⟨X, 4, none⟩ = some (.int .i64 t.share) ∧ W.cell? ⟨X, 5, none⟩ = some (.int .i64 t.base) ∧ W.cell? ⟨X, 6, none⟩ = some (.int .i64 t.top) ∧ Hid (BlockAt W X 24 t.cells ∧ Below w.heap.size w W))
    (first | assumption | exact ⟨c0, c1, c2, c3, c4, c5, c6, HPd⟩ | exact ⟨by assumption, by assumption, by assumption, by assumption, by assumption, by assumption, by assumption, by assumption⟩)
    (first
      | (go_at_call 9; with_reducible refine (E1.out _ (by assumption)).mono ?_; rintro e w' ⟨g, rfl, hin, q0, q1, q2, q3, q4, q5, q6, kp⟩)
      | (go_at_call 8; with_reducible refine (E2.out _ _ (by assumption) (by assumption)).mono ?_; rintro e w' ⟨b, m, B, rfl, hg, q0, q1, q2, q3, q4, q5, q6, kp⟩))
  all_goals
    have HR := Lib.hid (show RG w w' X b m B t (fun _ => zeroE) from ⟨hg.out, kp.out.2, kp.out.1⟩)
    clear hg q0 q1 q2 q3 q4 q5 q6 kp c0 c1 c2 c3 c4 c5 c6
  all_goals go_wp2_with fail
  all_goals
    refine (CK.out _).mono ?_
    rintro e w'' ⟨rfl, rfl⟩
  all_goals go_wp2_with fail
  all_goals
    refine (CA.out _).mono ?_
    rintro e w'' ⟨rfl, rfl⟩
  all_goals
    clear CK CA
    have HI0 := Lib.hid RowI.zero
  all_goals go_wp2_with fail
  all_goals
    go_loopw [11, 12] (fun rv iv wr => ∃ (j : Nat) (row : Int) (S : Nat → Es), j ≤ k ∧ iv = .int .i64 j ∧ rv = .int .i64 row ∧ 0 ≤ row ∧ row ≤ j ∧ Hid (RowI S row (2 * (j : Int))) ∧ Hid (RG w wr X b m B t S)) (fun _ i _ => k - (intOf i).toNat)
    case atStart => exact ⟨0, 0, _, by omega, rfl, rfl, by omega, by omega, HI0, HR⟩
    case round =>
      obtain ⟨j, row, S, hj, rfl, rfl, hr0, hr1, HI, HR1⟩ := hrel
      clear HI0 HR
      by_cases hjk : j < k
      · have CN1 := Lib.hid (HR1.out.note HT.out (c := 2 * (j : Int)) (by omega) HI.out.ok true)
        go_upto_if 34 with fail
        go_cut [11] (fun rv wx => ∃ (row : Int) (S : Nat → Es), rv = .int .i64 row ∧ 0 ≤ row ∧ row ≤ j ∧ Hid (RowI S row (2 * (j : Int) + 1)) ∧ Hid (RG w wx X b m B t S))
        case first =>
          by_cases hw : j = wl
          · have hw2 : ((j : Int) == wl) = true := by rw [beq_iff_eq]; omega
            subst hw
            go_wp2_with fail
            refine CN1.out.mono ?_
            rintro e w5 ⟨S', is, rfl, hn, hg⟩
            have H5 := Lib.hid (HI.out.well (by omega) hn)
            have G5 := Lib.hid hg
            clear hn hg CN1
            go_wp2_with fail
            go_meet
            exact ⟨0, S', rfl, by omega, by omega, H5, G5⟩
          · have hw2 : ((j : Int) == wl) = false := by rw [beq_eq_false_iff_ne]; omega
            have hw3 : (j == wl) = false := by simpa using hw
            have H5 : Hid (RowI S row (2 * (j : Int) + 1)) := Lib.hid ⟨fun i hi => (HI.out.ok i hi).mono (by omega), HI.out.oth, HI.out.one⟩
            clear CN1
            go_wp2_with fail
            go_meet
            exact ⟨row, S, rfl, hr0, hr1, H5, HR1⟩
        case rest =>
          obtain ⟨row, S, rfl, hr0, hr1, H5, G5⟩ := hcut
          clear HI HR1 CN1
          obtain ⟨u, hu⟩ : ∃ u, (S 1).untl = u := ⟨_, rfl⟩
          have HU := Lib.hid hu
          have CU := Lib.hid (G5.out.until (k := 2) (u := u) (by rw [untl_2]; exact hu))
          have CN2 := Lib.hid (G5.out.note HT.out (c := 2 * (j : Int) + 1) (by omega) H5.out.ok false)
          clear hu
          go_wp2_with fail
          refine CU.out.mono ?_
          rintro e w'' ⟨rfl, rfl⟩
          clear CU
          go_wp2_with fail
          refine CN2.out.mono ?_
          rintro e w6 ⟨S', is, rfl, hn, hg⟩
          obtain ⟨h6, his⟩ := H5.out.err (by omega) HTB.out.1 HTB.out.2.1 HTB.out.2.2.1 HTB.out.2.2.2.1 HTB.out.2.2.2.2.1 hn
          have H6 : Hid (RowI S' (row + 1) (2 * ((j + 1 : Nat) : Int))) := Lib.hid (by rw [show 2 * ((j + 1 : Nat) : Int) = 2 * (j : Int) + 1 + 1 by omega]; exact h6)
          have G6 := Lib.hid hg
          have x0 := hg.x.cell 0 _ rfl
          rw [HU.out] at his
          have hr2 : row + 1 ≤ ((j + 1 : Nat) : Int) := by omega
          have ewr := IntWalk.i64_in (row + 1) (by omega)
          clear h6 hn hg CN2
          by_cases hu0 : u = 0
          · subst hu0
            have his2 : is = decide (t.errors ≤ row + 1) := by rw [his]; simp
            subst his2
            clear his
            go_wp2_with fail
            go_roundw
            case rel => exact ⟨j + 1, row + 1, S', by omega, by go_num, rfl, by omega, hr2, H6, G6⟩
            case measure => simp [intOf] <;> omega
          · have hub : (u == 0) = false := by simpa using hu0
            have hun : (u != 0) = true := by simpa using hu0
            have his2 : is = false := by rw [his, hub]; rfl
            subst his2
            clear his
            go_wp2_with fail
            go_roundw
            case rel => exact ⟨j + 1, row + 1, S', by omega, by go_num, rfl, by omega, hr2, H6, G6⟩
            case measure => simp [intOf] <;> omega
      · have C1 := Lib.hid (HR1.out.until (k := 1) (u := 0) (by rw [untl_1]; exact (HI.out.oth 0 (by omega) (by omega)).2))
        have C3 := Lib.hid (HR1.out.until (k := 3) (u := 0) (by rw [untl_3]; exact (HI.out.oth 2 (by omega) (by omega)).2))
        go_wp2_with fail
        refine C1.out.mono ?_
        rintro e w'' ⟨rfl, rfl⟩
        go_wp2_with fail
        refine C3.out.mono ?_
        rintro e w'' ⟨rfl, rfl⟩
        clear C1 C3
        go_wp2_with fail
        refine (lives_any _).mono ?_
        rintro e w9 ⟨rfl, hb9⟩
        have HB9 := Lib.hid (HR1.out.st.trans (hb9.mono HR1.out.st.size))
        clear hb9
        go_wp2_with fail
        go_ret
        exact ⟨rfl, HB9.out⟩
end Go.Proofs.Ytfmgcnmikopgeaa
