/- Layer 22: the walk of next. -/
import Derived.Test.YtapoikegoknlcaaFairB
namespace Go.Proofs.Ytapoikegoknlcaa
open Go.RowKit
/-- What next knows behind j items. -/
structure Nx (l : List It) (tk : Bool) (last : Int) (j : Nat) (L A : Int) (I : Bool) : Prop where
  l0 : ∃ (k : Nat) (x : It), l[k]? = some x ∧ x.flow = L
  l1 : ∀ (i : Nat) (x : It), i < j → l[i]? = some x → L ≤ x.flow
  a0 : I = true → tk = true ∧ last < A ∧ (∃ (k : Nat) (x : It), l[k]? = some x ∧ x.flow = A) ∧ ∀ (i : Nat) (x : It), i < j → l[i]? = some x → last < x.flow → A ≤ x.flow
  a1 : I = false → ∀ (i : Nat) (x : It), i < j → l[i]? = some x → ¬ (tk = true ∧ last < x.flow)
theorem Nx.start {l : List It} {tk : Bool} {last : Int} {x : It} (h : l[0]? = some x) : Nx l tk last 0 x.flow 0 false :=
  ⟨⟨0, x, h, rfl⟩, fun i _ hi => by omega, fun h => by simp at h, fun _ i _ hi => by omega⟩
theorem Nx.least {l : List It} {tk : Bool} {last : Int} {j : Nat} {L A : Int} {I : Bool} {x : It} (h : Nx l tk last j L A I) (hx : l[j]? = some x) :
    (∃ (k : Nat) (y : It), l[k]? = some y ∧ y.flow = min L x.flow) ∧ ∀ (i : Nat) (y : It), i < j + 1 → l[i]? = some y → min L x.flow ≤ y.flow := by
  refine ⟨?_, fun i y hi hy => ?_⟩
  · obtain ⟨k, y, hk, hy⟩ := h.l0
    by_cases hc : L ≤ x.flow
    · exact ⟨k, y, hk, by omega⟩
    · exact ⟨j, x, hx, by omega⟩
  · rcases (show i < j ∨ i = j by omega) with hi | rfl
    · have := h.l1 i y hi hy; omega
    · rw [hx] at hy; cases hy; omega
theorem Nx.skip {l : List It} {tk : Bool} {last : Int} {j : Nat} {L A : Int} {I : Bool} {x : It} (h : Nx l tk last j L A I) (hx : l[j]? = some x) (hn : ¬ (tk = true ∧ last < x.flow)) : Nx l tk last (j + 1) (min L x.flow) A I := by
  obtain ⟨e1, e2⟩ := h.least hx
  refine ⟨e1, e2, fun hI => ?_, fun hI i y hi hy => ?_⟩
  · obtain ⟨a, b, c, d⟩ := h.a0 hI
    refine ⟨a, b, c, fun i y hi hy hl => ?_⟩
    rcases (show i < j ∨ i = j by omega) with hi | rfl
    · exact d i y hi hy hl
    · rw [hx] at hy; cases hy; exact absurd ⟨a, hl⟩ hn
  · rcases (show i < j ∨ i = j by omega) with hi | rfl
    · exact h.a1 hI i y hi hy
    · rw [hx] at hy; cases hy; exact hn
theorem Nx.stay {l : List It} {tk : Bool} {last : Int} {j : Nat} {L A : Int} {x : It} (h : Nx l tk last j L A true) (hx : l[j]? = some x) (hA : A ≤ x.flow) : Nx l tk last (j + 1) (min L x.flow) A true := by
  obtain ⟨e1, e2⟩ := h.least hx
  refine ⟨e1, e2, fun hI => ?_, fun hI => by simp at hI⟩
  obtain ⟨a, b, c, d⟩ := h.a0 hI
  refine ⟨a, b, c, fun i y hi hy hl => ?_⟩
  rcases (show i < j ∨ i = j by omega) with hi | rfl
  · exact d i y hi hy hl
  · rw [hx] at hy; cases hy; exact hA
theorem Nx.take {l : List It} {tk : Bool} {last : Int} {j : Nat} {L A : Int} {I : Bool} {x : It} (h : Nx l tk last j L A I) (hx : l[j]? = some x) (ht : tk = true) (hl : last < x.flow) (hA : I = true → x.flow < A) : Nx l tk last (j + 1) (min L x.flow) x.flow true := by
  obtain ⟨e1, e2⟩ := h.least hx
  refine ⟨e1, e2, fun _ => ⟨ht, hl, ⟨j, x, hx, rfl⟩, fun i y hi hy hly => ?_⟩, fun hI => by simp at hI⟩
  rcases (show i < j ∨ i = j by omega) with hi | rfl
  · cases I with
    | true => have := (h.a0 rfl).2.2.2 i y hi hy hly; have := hA rfl; omega
    | false => exact absurd ⟨ht, hly⟩ (h.a1 rfl i y hi hy)
  · rw [hx] at hy; cases hy; omega
/-- The next flow of a row. -/
structure NextOk (l : List It) (tk : Bool) (last : Int) (f : Int) : Prop where
  is : ∃ (k : Nat) (x : It), l[k]? = some x ∧ x.flow = f
  above : (tk = true ∧ last < f ∧ ∀ (i : Nat) (x : It), l[i]? = some x → last < x.flow → f ≤ x.flow) ∨
    ((∀ (i : Nat) (x : It), l[i]? = some x → ¬ (tk = true ∧ last < x.flow)) ∧ ∀ (i : Nat) (x : It), l[i]? = some x → f ≤ x.flow)
theorem Nx.endT {l : List It} {tk : Bool} {last : Int} {L A : Int} (h : Nx l tk last l.length L A true) : NextOk l tk last A := by
  obtain ⟨a, b, c, d⟩ := h.a0 rfl
  exact ⟨c, .inl ⟨a, b, fun i x hx => d i x (List.getElem?_eq_some_iff.1 hx).1 hx⟩⟩
theorem Nx.endF {l : List It} {tk : Bool} {last : Int} {L A : Int} (h : Nx l tk last l.length L A false) : NextOk l tk last L :=
  ⟨h.l0, .inr ⟨fun i x hx => h.a1 rfl i x (List.getElem?_eq_some_iff.1 hx).1 hx, fun i x hx => h.l1 i x (List.getElem?_eq_some_iff.1 hx).1 hx⟩⟩
def NextPost (l : List It) (tk : Bool) (last : Int) (w : World) (e : Ending) (w' : World) : Prop := (∃ f : Int, e = .returned (.int .i64 f) ∧ NextOk l tk last f) ∧ Below w.heap.size w w'
set_option maxHeartbeats 2000000 in
theorem next_any (b o g cap : Nat) (l : List It) (tk : Bool) (last : Int) (w : World) (hi : ItemsIn w g l) (h0 : 0 < l.length) (hl : (l.length : Int) ≤ 1000000)
    (k0 : w.cell? ⟨b, o, none⟩ = some (.slice (some ⟨g, 0, none⟩) l.length cap)) (k1 : w.cell? ⟨b, o + 1, none⟩ = some (.bool tk)) (k2 : w.cell? ⟨b, o + 2, none⟩ = some (.int .i64 last)) :
    Calls Try.prog 27 #[.pointer (some ⟨b, o, none⟩)] w (NextPost l tk last w) := by
  have HI := Lib.hid hi
  have hbw := World.block_lt_of_cell? w _ k0
  obtain ⟨n, hn⟩ : ∃ n, l.length = n := ⟨_, rfl⟩
  have HN := Lib.hid hn
  rw [hn] at h0 hl k0
  obtain ⟨x0, hx0⟩ : ∃ x, l[0]? = some x := ⟨l[0]'(by omega), by simp⟩
  obtain ⟨-, -, c2⟩ := hi 0 x0 hx0
  have HST := Lib.hid (Nx.start (tk := tk) (last := last) hx0)
  obtain ⟨F0, hF0⟩ : ∃ f, x0.flow = f := ⟨_, rfl⟩
  rw [hF0] at HST c2
  have n0 : (0 : Int) < n := by omega
  have HK := Lib.hid (And.intro k0 (And.intro k1 k2))
  clear hi hx0 hF0 hn h0
  go_enter Try.func27, Try.ntmps27
  go_wp2_with fail
  clear c2
  go_loopw [3, 4, 5, 20] (fun a c d i wr => ∃ (L A : Int) (I : Bool) (j : Nat), (j : Int) ≤ n ∧ a = .int .i64 L ∧ c = .int .i64 A ∧ d = .bool I ∧ i = .int .i64 j ∧ Hid (Nx l tk last j L A I) ∧ Hid (Below w.heap.size w wr)) (fun _ _ _ i _ => n - (intOf i).toNat)
  case atStart => exact ⟨F0, 0, false, 0, by omega, rfl, rfl, rfl, rfl, HST, Lib.hid (Below.refl _ _)⟩
  case round =>
    obtain ⟨L, A, I, j, hj, rfl, rfl, rfl, rfl, HX, HB⟩ := hrel
    clear HST k0 k1 k2
    by_cases hlt : (j : Int) < n
    · obtain ⟨x, hx⟩ : ∃ x, l[j]? = some x := ⟨l[j]'(by rw [HN.out]; omega), by simp⟩
      obtain ⟨c0, c1, c2⟩ := (HI.out.keep (Upd.ofBelow HB.out) (by simp)) j x hx
      have r1 := (Upd.ofBelow HB.out).cell HK.out.2.1 (by simp)
      have r2 := (Upd.ofBelow HB.out).cell HK.out.2.2 (by simp)
      have eb : wr.heap.size ≠ b := Nat.ne_of_gt (World.block_lt_of_cell? wr _ r1)
      have eb2 : b < wr.heap.size := World.block_lt_of_cell? wr _ r1
      have HB1 : Hid (Below w.heap.size w (wr.alloc (.cells #[.int .i64 x.id, .int .i64 x.prio, .int .i64 x.flow] 27))) := Lib.hid (HB.out.alloc HB.out.size _)
      have HXX := Lib.hid hx
      obtain ⟨xi, xp, xf⟩ := x
      dsimp only at c0 c1 c2 HB1
      have j0 : (0 : Int) ≤ j := by omega
      have HB2 : ∀ m, Hid (Below w.heap.size w ((wr.alloc (.cells #[.int .i64 xi, .int .i64 xp, .int .i64 xf] 27)).drewN m)) := fun m => Lib.hid (HB1.out.trans (Upd.below (Upd.drewN [] _ m) HB1.out.size (by simp)))
      have HB3 := Lib.hid HB2
      clear HB2 hx
      have hcase : (tk = false) ∨ (tk = true ∧ xf ≤ last) ∨ (tk = true ∧ last < xf ∧ I = false) ∨ (tk = true ∧ last < xf ∧ I = true ∧ xf < A) ∨ (tk = true ∧ last < xf ∧ I = true ∧ A ≤ xf) := by
        cases tk <;> cases I <;> simp <;> omega
      rcases hcase with rfl | ⟨rfl, h1⟩ | ⟨rfl, h1, rfl⟩ | ⟨rfl, h1, rfl, h2⟩ | ⟨rfl, h1, rfl, h2⟩
      · have HXN := Lib.hid (HX.out.skip HXX.out (by simp))
        by_cases hm : L ≤ xf
        · rw [show min L xf = L by omega] at HXN
          go_wp2_with fail
          go_quiet (fail)
          go_wp2_with fail
          go_roundw
          case rel => exact ⟨_, A, I, j + 1, by omega, rfl, rfl, rfl, by go_num, HXN, HB3.out _⟩
          case measure => simp [intOf] <;> omega
        · rw [show min L xf = xf by omega] at HXN
          go_wp2_with fail
          go_quiet (fail)
          go_wp2_with fail
          go_roundw
          case rel => exact ⟨_, A, I, j + 1, by omega, rfl, rfl, rfl, by go_num, HXN, HB3.out _⟩
          case measure => simp [intOf] <;> omega
      · have HXN := Lib.hid (HX.out.skip HXX.out (by simp; omega))
        have d1 : decide (last < xf) = false := by simp; omega
        have d2 : decide (xf > last) = false := by simp; omega
        by_cases hm : L ≤ xf
        · rw [show min L xf = L by omega] at HXN
          go_wp2_with fail
          go_quiet (fail)
          go_wp2_with fail
          go_roundw
          case rel => exact ⟨_, A, I, j + 1, by omega, rfl, rfl, rfl, by go_num, HXN, HB3.out _⟩
          case measure => simp [intOf] <;> omega
        · rw [show min L xf = xf by omega] at HXN
          go_wp2_with fail
          go_quiet (fail)
          go_wp2_with fail
          go_roundw
          case rel => exact ⟨_, A, I, j + 1, by omega, rfl, rfl, rfl, by go_num, HXN, HB3.out _⟩
          case measure => simp [intOf] <;> omega
      · have HXN := Lib.hid (HX.out.take HXX.out rfl h1 (by simp))
        have d1 : decide (last < xf) = true := by simp; omega
        have d2 : decide (xf > last) = true := by simp; omega
        by_cases hm : L ≤ xf
        · rw [show min L xf = L by omega] at HXN
          go_wp2_with fail
          go_quiet (fail)
          go_wp2_with fail
          go_roundw
          case rel => exact ⟨_, xf, true, j + 1, by omega, rfl, rfl, rfl, by go_num, HXN, HB3.out _⟩
          case measure => simp [intOf] <;> omega
        · rw [show min L xf = xf by omega] at HXN
          go_wp2_with fail
          go_quiet (fail)
          go_wp2_with fail
          go_roundw
          case rel => exact ⟨_, xf, true, j + 1, by omega, rfl, rfl, rfl, by go_num, HXN, HB3.out _⟩
          case measure => simp [intOf] <;> omega
      · have HXN := Lib.hid (HX.out.take HXX.out rfl h1 (fun _ => h2))
        have d1 : decide (last < xf) = true := by simp; omega
        have d2 : decide (xf > last) = true := by simp; omega
        have d3 : decide (xf < A) = true := by simp; omega
        by_cases hm : L ≤ xf
        · rw [show min L xf = L by omega] at HXN
          go_wp2_with fail
          go_quiet (fail)
          go_wp2_with fail
          go_roundw
          case rel => exact ⟨_, xf, true, j + 1, by omega, rfl, rfl, rfl, by go_num, HXN, HB3.out _⟩
          case measure => simp [intOf] <;> omega
        · rw [show min L xf = xf by omega] at HXN
          go_wp2_with fail
          go_quiet (fail)
          go_wp2_with fail
          go_roundw
          case rel => exact ⟨_, xf, true, j + 1, by omega, rfl, rfl, rfl, by go_num, HXN, HB3.out _⟩
          case measure => simp [intOf] <;> omega
      · have HXN := Lib.hid (HX.out.stay HXX.out h2)
        have d1 : decide (last < xf) = true := by simp; omega
        have d2 : decide (xf > last) = true := by simp; omega
        have d3 : decide (xf < A) = false := by simp; omega
        by_cases hm : L ≤ xf
        · rw [show min L xf = L by omega] at HXN
          go_wp2_with fail
          go_quiet (fail)
          go_wp2_with fail
          go_roundw
          case rel => exact ⟨_, A, true, j + 1, by omega, rfl, rfl, rfl, by go_num, HXN, HB3.out _⟩
          case measure => simp [intOf] <;> omega
        · rw [show min L xf = xf by omega] at HXN
          go_wp2_with fail
          go_quiet (fail)
          go_wp2_with fail
          go_roundw
          case rel => exact ⟨_, A, true, j + 1, by omega, rfl, rfl, rfl, by go_num, HXN, HB3.out _⟩
          case measure => simp [intOf] <;> omega
    · have hjl : j = l.length := by rw [HN.out]; omega
      have hXX := HX.out
      rw [hjl] at hXX
      have HXX := Lib.hid hXX
      clear hXX hjl
      cases I with
      | true =>
        go_wp2_with fail
        go_ret
        exact ⟨⟨A, rfl, HXX.out.endT⟩, HB.out⟩
      | false =>
        go_wp2_with fail
        go_ret
        exact ⟨⟨L, rfl, HXX.out.endF⟩, HB.out⟩
end Go.Proofs.Ytapoikegoknlcaa
