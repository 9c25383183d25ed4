/- Layer 14: bad. -/
import Derived.Test.YtfmgcnmikopgeaaOutI
import Derived.Test.YtfmgcnmikopgeaaFixC
import Derived.Test.YtfmgcnmikopgeaaSketchF
import Derived.Deep.DeepCutAuto
namespace Go.Proofs.Ytfmgcnmikopgeaa
open Go.RowKit
/-- All answered well, and fast. -/
def CalmE (t : Wt) (s : Es) : Prop := s.well = s.att ∧ (∀ n ∈ skNums s.sk, n ≤ 9) ∧ (t.slow ≤ 0 ∨ 9 ≤ t.slow)
def CalmP (ps : List (Int × Int)) : Prop := ∀ p ∈ ps, p.1 = p.2
theorem shareZ_full {a : Int} (h : 1 ≤ a) : shareZ a a = 1000 := by
  unfold shareZ
  exact Int.mul_ediv_cancel_left _ (by omega)
theorem far_calm {ps : List (Int × Int)} (hok : ∀ p ∈ ps, PairOk p) (h : CalmP ps) {a t : Int} (ha : 1 ≤ a) : farB (shareZ a a) t (shares ps) = false := by
  cases hf : farB (shareZ a a) t (shares ps) with
  | false => rfl
  | true =>
    refine (far_not_best hf fun x hx => ?_).elim
    rw [shareZ_full ha]
    exact (shares_mem hok x hx).2
theorem cumN_nine {l : List Nat} (h : ∀ n ∈ l, n ≤ 9) : cumN l 9 = l.length := by
  unfold cumN
  rw [List.filter_eq_self.2]
  intro n hn
  have := h n hn
  unfold bucketN
  rw [if_pos (by omega)]
  simpa using this
theorem told_calm {l : List Nat} {k b : Nat} (h : ∀ n ∈ l, n ≤ 9) (hk : k ≤ l.length) (ht : Told l k b) : topB b ≤ 9 := by
  have hb : b ≤ 9 := by
    by_cases e : b ≤ 9
    · exact e
    · have := ht.2.2 9 (by omega)
      rw [cumN_nine h] at this
      omega
  unfold topB
  rw [if_pos (by omega)]
  exact hb
def BadPost (t : Wt) (s : Es) (ps : List (Int × Int)) (w : World) (e : Ending) (w' : World) : Prop := ∃ bv, e = .returned (.bool bv) ∧ (CalmE t s → CalmP ps → bv = false) ∧ Below w.heap.size w w'
set_option maxRecDepth 100000 in
set_option maxHeartbeats 4000000 in
theorem bad_any (base b : Nat) (t : Wt) (frm : Int) (m N : Nat) (B : Nat → Nat) (S : Nat → Es) (i : Nat) (v : Value) (ps : List (Int × Int)) (w : World) (h : GAt base w b t frm m N B S) (hi : i < N) (hps : PairsIn w v ps) (hd0 : 0 ≤ t.dev) (hd1 : t.dev ≤ 1000)
    (hp : PairOk ((S i).well, (S i).att)) (hw : ((skNums (S i).sk).length : Int) = (S i).well) (hn : ∀ n ∈ skNums (S i).sk, n < 1000000) (hw9 : (S i).well ≤ 999) :
    Calls Try.prog 38 #[.pointer (some ⟨b, 0, none⟩), .pointer (some ⟨B i, 0, none⟩), v] w (BadPost t (S i) ps w) := by
  have HPO := Lib.hid hps
  obtain ⟨pa, pcap, rfl, -, hok, -⟩ := hps
  obtain ⟨np, hnp⟩ : ∃ np, ps.length = np := ⟨_, rfl⟩
  rw [hnp] at HPO ⊢
  have HOKP := Lib.hid hok
  have c2 := h.blk.cell 2 _ rfl
  have c3 := h.blk.cell 3 _ rfl
  have he := h.ends i hi
  have d4 := he.cell 4 _ rfl
  have d5 := he.cell 5 _ rfl
  have d6 := he.cell 6 _ rfl
  have HSK := Lib.hid (h.sks i hi)
  obtain ⟨s, hs⟩ : ∃ s, S i = s := ⟨_, rfl⟩
  rw [hs] at d4 d5 d6 hp hw hn hw9 HSK ⊢
  obtain ⟨E, hE⟩ : ∃ E, B i = E := ⟨_, rfl⟩
  rw [hE] at d4 d5 d6 ⊢
  have CF := Lib.hid (fun (W : World) (hb : Hid (Below w.heap.size w W)) => far_any s.well s.att (.slice pa np pcap) ps t.dev W hp (HPO.out.keep (Upd.ofBelow hb.out) (by simp)) hd0 hd1)
  have HC : Hid (∀ W, Below w.heap.size w W → W.cell? ⟨b, 2, none⟩ = some (.int .i64 t.dev) ∧ W.cell? ⟨E, 4, none⟩ = some (.int .i64 s.att) ∧ W.cell? ⟨E, 5, none⟩ = some (.int .i64 s.well) ∧ Hid (Below w.heap.size w W)) := Lib.hid fun W hb =>
    ⟨(Upd.ofBelow hb).cell c2 (by simp), (Upd.ofBelow hb).cell d4 (by simp), (Upd.ofBelow hb).cell d5 (by simp), Lib.hid hb⟩
  have CF2 : Hid (∀ W, Hid (Below w.heap.size w W) → Calls Try.prog 43 #[.int .i64 s.well, .int .i64 s.att, .slice pa np pcap, .int .i64 t.dev] W fun e W' => e = .returned (.bool (farB (shareZ s.well s.att) t.dev (shares ps))) ∧ W'.cell? ⟨b, 2, none⟩ = some (.int .i64 t.dev) ∧ W'.cell? ⟨E, 4, none⟩ = some (.int .i64 s.att) ∧ W'.cell? ⟨E, 5, none⟩ = some (.int .i64 s.well) ∧ Hid (Below w.heap.size w W')) := Lib.hid fun W hb =>
    (CF.out W hb).mono fun _ _ ⟨h1, h2⟩ => ⟨h1, HC.out _ (hb.out.trans (h2.mono hb.out.size))⟩
  have HFC : Hid (CalmE t s → CalmP ps → farB (shareZ s.well s.att) t.dev (shares ps) = false) := Lib.hid fun h1 h2 => by
    rw [h1.1]; exact far_calm HOKP.out h2 hp.a0
  obtain ⟨FB, hFB⟩ : ∃ f, farB (shareZ s.well s.att) t.dev (shares ps) = f := ⟨_, rfl⟩
  rw [hFB] at CF2 HFC
  have HB0 : Hid (∀ k, Below w.heap.size w (w.drewN k)) := Lib.hid fun k => drewN_below w k
  obtain ⟨k2, k4, k5, k6⟩ := HC.out w.drew ((Upd.drew [] w).below (Nat.le_refl _) (by simp))
  clear h hi hd0 hd1 hp hok hs hE he hFB CF hnp
  go_enter Try.func38, Try.ntmps38
  go_upto_region 1 with fail
  go_cut [31] (fun fv wx => ∃ f, fv = .bool f ∧ Hid (CalmE t s → CalmP ps → f = false) ∧ Hid (Below w.heap.size w wx))
  case first =>
    by_cases hdev : 0 < t.dev
    · have hd : decide (t.dev > 0) = true := by simpa using hdev
      go_region_held3 (fun W => W.cell? ⟨b, 2, none⟩ = some (.int .i64 t.dev) ∧ W.cell? ⟨E, 4, none⟩ = some (.int .i64 s.att) ∧ W.cell? ⟨E, 5, none⟩ = some (.int .i64 s.well) ∧ Hid (Below w.heap.size w W))
        (first | assumption | exact ⟨k2, k4, k5, k6⟩ | exact ⟨by assumption, by assumption, by assumption, by assumption⟩)
        (first
          | (go_at_call 43; refine (CF2.out _ (by assumption)).mono ?_; rintro e w' ⟨rfl, e0, e1, e2, e3⟩))
      all_goals go_wp2_with fail
      all_goals go_meet
      all_goals exact ⟨_, rfl, HFC, e3⟩
    · have hd : decide (t.dev > 0) = false := by simpa using hdev
      go_quiet (fail)
      go_wp2_with fail
      go_meet
      exact ⟨_, rfl, Lib.hid (fun _ _ => rfl), Lib.hid (HB0.out _)⟩
  case rest =>
    obtain ⟨f, rfl, HF, HB⟩ := hcut
    clear CF2 HC HB0 k2 k4 k5 k6
    cases f with
    | true =>
      go_wp2_with fail
      go_ret
      exact ⟨true, rfl, HF.out, HB.out⟩
    | false =>
      have e3 := (Upd.ofBelow HB.out).cell c3 (by simp)
      have e5 := (Upd.ofBelow HB.out).cell d5 (by simp)
      have e6 := (Upd.ofBelow HB.out).cell d6 (by simp)
      by_cases hsl : 0 < t.slow
      · have hd : decide (t.slow > 0) = true := by simpa using hsl
        by_cases hwl : 0 < s.well
        · have hd2 : decide (s.well > 0) = true := by simpa using hwl
          obtain ⟨sb, sm, l, hsk⟩ : ∃ sb sm l, s.sk = some (sb, sm, l) := by
            cases hk : s.sk with
            | none => rw [hk] at hw; simp [skNums] at hw; omega
            | some x => exact ⟨x.1, x.2.1, x.2.2, rfl⟩
          have hl : skNums s.sk = l := by rw [hsk]; rfl
          have hp6 : skPtr s.sk = .pointer (some ⟨sb, 0, none⟩) := by rw [hsk]; rfl
          have d6' : w.cell? ⟨E, 6, none⟩ = some (.pointer (some ⟨sb, 0, none⟩)) := by rw [← hp6]; exact d6
          have HC : Hid (∀ W, Below w.heap.size w W → W.cell? ⟨b, 3, none⟩ = some (.int .i64 t.slow) ∧ W.cell? ⟨E, 5, none⟩ = some (.int .i64 s.well) ∧ W.cell? ⟨E, 6, none⟩ = some (.pointer (some ⟨sb, 0, none⟩)) ∧ Hid (Below w.heap.size w W)) := Lib.hid fun W hb =>
            ⟨(Upd.ofBelow hb).cell c3 (by simp), (Upd.ofBelow hb).cell d5 (by simp), (Upd.ofBelow hb).cell d6' (by simp), Lib.hid hb⟩
          rw [hl] at hw hn
          have CA : Hid (∀ W, Hid (Below w.heap.size w W) → Calls Try.prog 44 #[.pointer (some ⟨sb, 0, none⟩), .int .i64 900] W fun e W' => ∃ z : Int, e = .returned (.int .i64 z) ∧ Hid (CalmE t s → z ≤ 9) ∧ W'.cell? ⟨b, 3, none⟩ = some (.int .i64 t.slow) ∧ W'.cell? ⟨E, 5, none⟩ = some (.int .i64 s.well) ∧ W'.cell? ⟨E, 6, none⟩ = some (.pointer (some ⟨sb, 0, none⟩)) ∧ Hid (Below w.heap.size w W')) := Lib.hid fun W hb =>
            (at_any sb sm l 900 W ((HSK.out sb sm l hsk).1.keep (Upd.ofBelow hb.out) (by simp) (by simp)) (by omega) (fun n hn' => by have := hn n hn'; omega) (by decide)).mono (by
              rintro e W' ⟨⟨z, rfl, hz⟩, hb2⟩
              refine ⟨(z : Int), rfl, Lib.hid fun hcalm => ?_, HC.out _ (hb.out.trans (hb2.mono hb.out.size))⟩
              have h9 := hcalm.2.1
              rw [hl] at h9
              rcases hz with ⟨-, rfl⟩ | ⟨b', ht, rfl⟩
              · omega
              · have := told_calm h9 (place_le _ _ (by omega) (by decide)) ht
                omega)
          obtain ⟨k3, k5, k6, k7⟩ := HC.out wc.drew (HB.out.trans ((Upd.drew [] wc).below HB.out.size (by simp)))
          clear HSK hsk hl hp6 d6' d6 hw hn hw9 c2 c3 d4 d5 e3 e5 e6 HPO HOKP HFC
          go_upto_region 3 with fail
          go_region_held3 (fun W => W.cell? ⟨b, 3, none⟩ = some (.int .i64 t.slow) ∧ W.cell? ⟨E, 5, none⟩ = some (.int .i64 s.well) ∧ W.cell? ⟨E, 6, none⟩ = some (.pointer (some ⟨sb, 0, none⟩)) ∧ Hid (Below w.heap.size w W))
            (first | assumption | exact ⟨k3, k5, k6, k7⟩ | exact ⟨by assumption, by assumption, by assumption, by assumption⟩)
            (first
              | (go_at_call 44; refine (CA.out _ (by assumption)).mono ?_; rintro e w' ⟨z, rfl, hz, e0, e1, e2, e3⟩))
          all_goals go_wp2_with fail
          all_goals go_ret
          all_goals exact ⟨_, rfl, fun hc _ => by have := hz.out hc; have := hc.2.2; simp; omega, e3.out⟩
        · have hd2 : decide (s.well > 0) = false := by simpa using hwl
          go_wp2_with fail
          go_quiet (fail)
          go_wp2_with fail
          go_ret
          exact ⟨_, rfl, fun _ _ => rfl, HB.out.trans ((drewN_below wc _).mono HB.out.size)⟩
      · have hd : decide (t.slow > 0) = false := by simpa using hsl
        go_wp2_with fail
        go_quiet (fail)
        go_wp2_with fail
        go_ret
        exact ⟨_, rfl, fun _ _ => rfl, HB.out.trans ((drewN_below wc _).mono HB.out.size)⟩
end Go.Proofs.Ytfmgcnmikopgeaa
