/- Layer 22: a queue, and blocks beside it; remove and shed. -/
import Derived.Test.YtapoikegoknlcaaFairJ
import Derived.Test.YtapoikegoknlcaaFairG
import Derived.WalkMore
namespace Go.Proofs.Ytapoikegoknlcaa
open Go.RowKit
/-- A queue in memory that is new since base; the blocks S lie beside it. -/
def QS (base : Nat) (W : World) (b : Nat) (most n : Int) (r : Nat → Row) (S : List Nat) : Prop := ∃ v, QAt W base b most n v r ∧ base ≤ W.heap.size ∧ ∀ k ∈ S, k < W.heap.size ∧ ¬ QMay b v k
structure QStep (base : Nat) (S : List Nat) (w w' : World) : Prop where
  below : Below base w w'
  size : w.heap.size ≤ w'.heap.size
  same : ∀ k ∈ S, w'.heap[k]? = w.heap[k]?
theorem QStep.refl (base : Nat) (S : List Nat) (w : World) : QStep base S w w := ⟨Below.refl _ _, Nat.le_refl _, fun _ _ => rfl⟩
theorem QStep.trans {base : Nat} {S : List Nat} {a b c : World} (h : QStep base S a b) (k : QStep base S b c) : QStep base S a c :=
  ⟨h.below.trans k.below, Nat.le_trans h.size k.size, fun i hi => (k.same i hi).trans (h.same i hi)⟩
theorem QStep.block {base : Nat} {S : List Nat} {w w' : World} (h : QStep base S w w') {s : Nat} (hs : s ∈ S) {t : TypeId} {cs : List Value} (hb : BlockAt w s t cs) : BlockAt w' s t cs := by
  unfold BlockAt at *; rw [h.same s hs]; exact hb
theorem QStep.sub {base : Nat} {S T : List Nat} {w w' : World} (h : QStep base S w w') (hs : ∀ k ∈ T, k ∈ S) : QStep base T w w' := ⟨h.below, h.size, fun k hk => h.same k (hs k hk)⟩
theorem QStep.upd {base : Nat} {S T : List Nat} {w w' : World} (u : Upd T w w') (hb : base ≤ w.heap.size) (hT : ∀ k ∈ T, base ≤ k ∧ k ∉ S) (hS : ∀ k ∈ S, k < w.heap.size) : QStep base S w w' :=
  ⟨u.below hb (fun k hk => (hT k hk).1), u.size, fun k hk => u.block k (hS k hk) (fun hh => (hT k hh).2 hk)⟩
theorem QS.base_le {base : Nat} {W : World} {b : Nat} {most n : Int} {r : Nat → Row} {S : List Nat} (h : QS base W b most n r S) : base ≤ W.heap.size := by
  obtain ⟨v, -, hb, -⟩ := h; exact hb
theorem QS.lt {base : Nat} {W : World} {b : Nat} {most n : Int} {r : Nat → Row} {S : List Nat} (h : QS base W b most n r S) : ∀ k ∈ S, k < W.heap.size := by
  obtain ⟨v, -, -, hs⟩ := h; exact fun k hk => (hs k hk).1
theorem QS.blk_lt {base : Nat} {W : World} {b : Nat} {most n : Int} {r : Nat → Row} {S : List Nat} (h : QS base W b most n r S) : b < W.heap.size ∧ base ≤ b := by
  obtain ⟨v, h, -, -⟩ := h; exact ⟨h.blk.lt, h.lo⟩
theorem QS.ne {base : Nat} {W : World} {b : Nat} {most n : Int} {r : Nat → Row} {S : List Nat} (h : QS base W b most n r S) : ∀ k ∈ S, k ≠ b := by
  obtain ⟨v, -, -, hs⟩ := h
  exact fun k hk e => (hs k hk).2 (.inl e)
theorem QS.sub {base : Nat} {W : World} {b : Nat} {most n : Int} {r : Nat → Row} {S T : List Nat} (h : QS base W b most n r S) (hs : ∀ k ∈ T, k ∈ S) : QS base W b most n r T := by
  obtain ⟨v, h, hb, hS⟩ := h; exact ⟨v, h, hb, fun k hk => hS k (hs k hk)⟩
theorem QS.next {base : Nat} {W W' : World} {b : Nat} {most n : Int} {r : Nat → Row} {S : List Nat} (h : QS base W b most n r S) (u : Upd [] W W') : QS base W' b most n r S := by
  obtain ⟨v, h, hb, hS⟩ := h
  exact ⟨v, h.next u, Nat.le_trans hb u.size, fun k hk => ⟨Nat.lt_of_lt_of_le (hS k hk).1 u.size, (hS k hk).2⟩⟩
theorem QS.write {base : Nat} {W W' : World} {b : Nat} {most n : Int} {r : Nat → Row} {S T : List Nat} (h : QS base W b most n r S) (u : Upd T W W') (hT : ∀ k ∈ T, k ∈ S) : QS base W' b most n r S := by
  obtain ⟨v, h, hb, hS⟩ := h
  exact ⟨v, h.away u (fun hh => (hS b (hT b hh)).2 (.inl rfl)) (fun q k hq hk hh => (hS k (hT k hh)).2 (.inr ⟨q, hq, hk⟩)), Nat.le_trans hb u.size, fun k hk => ⟨Nat.lt_of_lt_of_le (hS k hk).1 u.size, (hS k hk).2⟩⟩
/-- A block that is new lies beside the queue. -/
theorem QS.new {base : Nat} {W W' : World} {b : Nat} {most n : Int} {r : Nat → Row} {S : List Nat} (h : QS base W b most n r S) (u : Upd [] W W') {z : Nat} (hz : W.heap.size ≤ z) (hz' : z < W'.heap.size) : QS base W' b most n r (z :: S) := by
  have h' := h.next u
  obtain ⟨v, h, hb, hS⟩ := h
  refine ⟨v, h.next u, Nat.le_trans hb u.size, fun k hk => ?_⟩
  rcases List.mem_cons.1 hk with rfl | hk
  · refine ⟨hz', ?_⟩
    rintro (rfl | ⟨q, hq, hk⟩)
    · have := h.blk.lt; omega
    · have := ((h.own q hq).lt _ hk).2; omega
  · exact ⟨Nat.lt_of_lt_of_le (hS k hk).1 u.size, (hS k hk).2⟩
theorem QS.alloc {base : Nat} {W : World} {b : Nat} {most n : Int} {r : Nat → Row} {S : List Nat} (h : QS base W b most n r S) (o : Obj) : QS base (W.alloc o) b most n r (W.heap.size :: S) := h.new (Upd.alloc [] W o) (Nat.le_refl _) (by simp)
theorem QS.of {base : Nat} {w w' : World} {b : Nat} {most n n' : Int} {v v' : Nat → Value} {r r' : Nat → Row} {S : List Nat} (h : QAt w base b most n v r) (hb : base ≤ w.heap.size) (hS : ∀ k ∈ S, k < w.heap.size ∧ ¬ QMay b v k)
    (h' : QAt w' base b most n' v' r') (ho : OwnFrom w v v') (u : QUpd b v w w') : QS base w' b most n' r' S ∧ QStep base S w w' := by
  refine ⟨⟨v', h', Nat.le_trans hb u.size, fun k hk => ⟨Nat.lt_of_lt_of_le (hS k hk).1 u.size, ho.may (hS k hk).1 (hS k hk).2⟩⟩, u.below hb h.lo (fun q k hq hk => ((h.own q hq).lt k hk).1), u.size, fun k hk => ?_⟩
  obtain ⟨T, hu, hm⟩ := u
  exact hu.block k (hS k hk).1 (fun hh => (hS k hk).2 (hm k hh))
theorem QS.count {base : Nat} {W : World} {b : Nat} {most n : Int} {r : Nat → Row} {S : List Nat} (h : QS base W b most n r S) (m : Int) : QS base (W.setCell ⟨b, 1, none⟩ (.int .i64 m)) b most m r S := by
  obtain ⟨v, h, hb, hS⟩ := h
  exact ⟨v, h.count m, by simpa [World.setCell] using hb, fun k hk => ⟨by simpa [World.setCell] using (hS k hk).1, (hS k hk).2⟩⟩
/-- What the queue's own block reads. -/
theorem QS.cells {base : Nat} {W : World} {b : Nat} {most n : Int} {r : Nat → Row} {S : List Nat} (h : QS base W b most n r S) :
    W.cell? ⟨b, 0, none⟩ = some (.int .i64 most) ∧ W.cell? ⟨b, 1, none⟩ = some (.int .i64 n) ∧ W.frozen? ⟨b, 1, none⟩ = false := by
  obtain ⟨v, h, -, -⟩ := h
  exact ⟨h.blk.cell 0 _ (qCs_most most n v r).1, h.blk.cell 1 _ (qCs_most most n v r).2, h.blk.free 1⟩
/-- A row: empty, or in a block. -/
theorem QS.row {base : Nat} {W : World} {b : Nat} {most n : Int} {r : Nat → Row} {S : List Nat} (h : QS base W b most n r S) {p : Nat} (hp : p < 4) :
    W.cell? ⟨b, 2 + p * 3 + 1, none⟩ = some (.bool (r p).taken) ∧ W.cell? ⟨b, 2 + p * 3 + 2, none⟩ = some (.int .i64 (r p).last) ∧
    ∃ ao cap, W.cell? ⟨b, 2 + p * 3, none⟩ = some (.slice ao (r p).items.length cap) ∧ ((r p).items = [] ∨ ∃ g, ao = some ⟨g, 0, none⟩ ∧ ItemsIn W g (r p).items ∧ (r p).items.length ≤ cap ∧ cap ≤ maxLen) := by
  obtain ⟨v, h, -, -⟩ := h
  obtain ⟨g0, g1, g2⟩ := qCs_get most n v r p hp
  refine ⟨h.blk.cell _ _ g1, h.blk.cell _ _ g2, ?_⟩
  have c0 := h.blk.cell _ _ g0
  by_cases he : (r p).items = []
  · obtain ⟨ao, cap, hv⟩ := h.empty hp he
    exact ⟨ao, cap, by rw [c0, hv, he]; rfl, .inl he⟩
  · obtain ⟨g, cap, junk, hv, hg, hgl, hcm, -⟩ := h.row hp he
    refine ⟨_, cap, by rw [c0, hv], .inr ⟨g, rfl, ItemsIn.of hg, ?_, hcm⟩⟩
    have := cellsI_length (r p).items
    rw [List.length_append] at hgl; omega
def QPost (base b : Nat) (most n' : Int) (r' : Nat → Row) (S : List Nat) (w w' : World) : Prop := QS base w' b most n' r' S ∧ QStep base S w w'
/-- remove at a queue. -/
theorem remove_qs (base b : Nat) (most n : Int) (r : Nat → Row) (S : List Nat) (p k : Nat) (x : It) (w : World) (h : QS base w b most n r S) (hp : p < 4) (hx : (r p).items[k]? = some x) :
    Calls Try.prog 30 #[.pointer (some ⟨b, 2 + p * 3, none⟩), .int .i64 k] w fun e w' => e = .returned x.val ∧ QPost base b most n (upd r p ⟨(r p).items.eraseIdx k, (r p).taken, (r p).last⟩) S w w' := by
  obtain ⟨v, h, hb, hS⟩ := h
  obtain ⟨hki, -⟩ := List.getElem?_eq_some_iff.1 hx
  obtain ⟨g, cap, junk, hv, hg, hgl, hcm, hgb⟩ := h.row hp (by intro hh; rw [hh] at hki; simp at hki)
  have hown : (v p).ownBlock = some g := by rw [hv]; rfl
  obtain ⟨z0, -, -⟩ := qCs_get most n v r p hp
  refine (remove_any b (2 + p * 3) g cap k (r p).items junk x w hx hg hgl hcm _ h.blk (by rw [z0, hv]) (h.ne p g hp hown)).mono ?_
  rintro e w7 ⟨rfl, ⟨junk7, hj1, hj2⟩, hb7, hu7⟩
  rw [qCs_row most n v _ p hp _ ((r p).items.eraseIdx k)] at hb7
  have hel : ((r p).items.eraseIdx k).length = (r p).items.length - 1 := by rw [List.length_eraseIdx]; simp [hki]
  have ho7 := ownsRow_of hj1 hj2 hcm hgb
  rw [hel] at ho7
  have hq8 := QAt.turn h hp hown hu7 (x := .slice (some ⟨g, 0, none⟩) ((r p).items.length - 1) cap) (y := ⟨(r p).items.eraseIdx k, (r p).taken, (r p).last⟩) hb7 (by dsimp only; rw [hel]; exact ho7) rfl
  refine ⟨rfl, QS.of h hb hS hq8 (fun q k' hq hk' => ?_) ((QUpd.refl b v w).step hu7 (by simp; exact ⟨.inl (.inr ⟨p, hp, hown⟩), .inl (.inl rfl)⟩))⟩
  by_cases e : q = p
  · subst e; rw [upd_same] at hk'; cases hk'; exact .inl ⟨q, hp, hown⟩
  · rw [upd_other _ _ e] at hk'; exact .inl ⟨q, hq, hk'⟩
/-- What shed does: the last one of the fullest flow of the least priority. -/
inductive ShedIs (r : Nat → Row) : (Nat → Row) → It → Prop
  | some (p i : Nat) (f : Int) (x : It) : p < 4 → (∀ q, q < p → (r q).items = []) → FullOk (r p).items f → (r p).items[i]? = some x → x.flow = f → (∀ (k : Nat) (y : It), i < k → (r p).items[k]? = some y → ¬ y.flow = f) →
      ShedIs r (upd r p ⟨(r p).items.eraseIdx i, (r p).taken, (r p).last⟩) x
def ShedPost (base b : Nat) (most n : Int) (r : Nat → Row) (S : List Nat) (w : World) (e : Ending) (w' : World) : Prop :=
  ∃ r' x, ShedIs r r' x ∧ e = .returned x.val ∧ QPost base b most (n - 1) r' S w w'
set_option maxHeartbeats 2000000 in
theorem shed_qs (base b : Nat) (most n : Int) (r : Nat → Row) (S : List Nat) (w : World) (h : QS base w b most n r S) (hn0 : 1 ≤ n) (hn : n ≤ 1000000) (hlen : ∀ q, q < 4 → ((r q).items.length : Int) ≤ 1000000) (hex : ∃ q, q < 4 ∧ (r q).items ≠ []) :
    Calls Try.prog 26 #[.pointer (some ⟨b, 0, none⟩)] w (ShedPost base b most n r S w) := by
  have HQ := Lib.hid h
  have HLE := Lib.hid hlen
  have HEX := Lib.hid hex
  have hbl := h.blk_lt.1
  have HB := Lib.hid h.base_le
  have HS := Lib.hid h.lt
  have HQ1 : Hid (QS base ((w.alloc (.cells #[.int .i64 0, .int .i64 0, .int .i64 0] 27)).alloc (.cells #[.int .i64 0, .int .i64 0, .int .i64 0] 27)) b most n r ((w.heap.size + 1) :: w.heap.size :: S)) := Lib.hid (by
    have := (h.alloc (.cells #[.int .i64 0, .int .i64 0, .int .i64 0] 27)).alloc (.cells #[.int .i64 0, .int .i64 0, .int .i64 0] 27)
    simpa using this)
  have HZ1 : Hid (BlockAt ((w.alloc (.cells #[.int .i64 0, .int .i64 0, .int .i64 0] 27)).alloc (.cells #[.int .i64 0, .int .i64 0, .int .i64 0] 27)) w.heap.size 27 [.int .i64 0, .int .i64 0, .int .i64 0]) := Lib.hid ((BlockAt.new w _ [.int .i64 0, .int .i64 0, .int .i64 0]).alloc _)
  have HX1 : Hid (BlockAt ((w.alloc (.cells #[.int .i64 0, .int .i64 0, .int .i64 0] 27)).alloc (.cells #[.int .i64 0, .int .i64 0, .int .i64 0] 27)) (w.heap.size + 1) 27 [.int .i64 0, .int .i64 0, .int .i64 0]) := Lib.hid (by
    have := BlockAt.new (w.alloc (.cells #[.int .i64 0, .int .i64 0, .int .i64 0] 27)) 27 [.int .i64 0, .int .i64 0, .int .i64 0]
    simpa using this)
  have HST1 : Hid (QStep base S w ((w.alloc (.cells #[.int .i64 0, .int .i64 0, .int .i64 0] 27)).alloc (.cells #[.int .i64 0, .int .i64 0, .int .i64 0] 27))) := Lib.hid (QStep.upd ((Upd.alloc [] _ _).trans (Upd.alloc [] _ _)) HB.out (by simp) HS.out)
  have HE0 : Hid (∀ q, q < 0 → (r q).items = []) := Lib.hid (fun q hq => by omega)
  clear h hlen hex
  go_enter Try.func26, Try.ntmps26
  go_wp2_with fail
  go_step3
  go_wp2_with fail
  go_step3
  go_wp2_with fail
  obtain ⟨w1, hw1⟩ : ∃ w1, ((w.alloc (.cells #[.int .i64 0, .int .i64 0, .int .i64 0] 27)).alloc (.cells #[.int .i64 0, .int .i64 0, .int .i64 0] 27)) = w1 := ⟨_, rfl⟩
  obtain ⟨Z, hZ⟩ : ∃ Z, w.heap.size = Z := ⟨_, rfl⟩
  obtain ⟨X, hX⟩ : ∃ X, Z + 1 = X := ⟨_, rfl⟩
  rw [hw1, hZ] at HZ1
  rw [hw1, hZ, hX] at HX1
  rw [hw1, hZ, hX] at HQ1
  rw [hw1] at HST1
  rw [hZ] at HB HS hbl
  rw [hw1, hZ, hX]
  have hZX : Z ≠ X := by omega
  have HBX := Lib.hid (show b ≠ X ∧ b ≠ Z ∧ base ≤ Z ∧ base ≤ X ∧ X ∉ S ∧ Z ∉ S from ⟨by omega, by omega, HB.out, by have := HB.out; omega, fun hh => by have := HS.out X hh; omega, fun hh => by have := HS.out Z hh; omega⟩)
  clear hw1 hZ hX HQ hbl
  go_loop [8] (fun i => ∃ j : Nat, (j : Int) ≤ 4 ∧ i = .int .i64 j ∧ Hid (∀ q, q < j → (r q).items = [])) (fun i => (4 - intOf i).toNat)
  case atStart => exact ⟨0, by omega, rfl, HE0⟩
  case round =>
    obtain ⟨p, hp, rfl, HE⟩ := hrel
    clear HE0
    have hlt : p < 4 := by
      rcases Nat.lt_or_ge p 4 with h | h
      · exact h
      · exfalso
        obtain ⟨q, hq, hne⟩ := HEX.out
        exact hne (HE.out q (by omega))
    have p0 : (0 : Int) ≤ p := by omega
    have p1 : (p : Int) < 4 := by omega
    have HP := Lib.hid hlt
    obtain ⟨-, -, ao, cap, c0, hrow⟩ := HQ1.out.row hlt
    have HROW := Lib.hid hrow
    clear hp hlt hrow
    by_cases he : (r p).items = []
    · rw [he] at c0
      have HE2 : Hid (∀ q, q < p + 1 → (r q).items = []) := Lib.hid (fun q hq => by
        rcases (show q = p ∨ q < p by omega) with rfl | hh
        · exact he
        · exact HE.out q hh)
      have c0' : w1.cell? ⟨b, 2 + p * 3, none⟩ = some (.slice ao 0 cap) := c0
      clear he c0
      go_wp2_with fail
      go_round
      case rel => exact ⟨p + 1, by omega, by go_num, HE2⟩
      case measure => simp [intOf] <;> omega
    · obtain ⟨g, rfl, hin, hnc, hcm⟩ : ∃ g, ao = some ⟨g, 0, none⟩ ∧ ItemsIn w1 g (r p).items ∧ (r p).items.length ≤ cap ∧ cap ≤ maxLen := by
        rcases HROW.out with h | h
        · exact absurd h he
        · exact h
      have hl0 : 0 < (r p).items.length := List.length_pos_iff.2 he
      have hl1 := HLE.out p HP.out
      have CF := Lib.hid (fullest_any b (2 + p * 3) g cap (r p).items w1 hin hl0 hl1 c0)
      obtain ⟨nl, hnl⟩ : ∃ nl, (r p).items.length = nl := ⟨_, rfl⟩
      have HNL := Lib.hid hnl
      rw [hnl] at c0 hl0 hl1 hnc
      have l0 : ((nl : Int) == 0) = false := by simp; omega
      have HIN := Lib.hid hin
      clear he hin hnl HROW
      go_wp2_with fail
      refine CF.out.mono ?_
      rintro e w2 ⟨⟨f, rfl, hf⟩, hb2⟩
      have HF := Lib.hid hf
      have u2 := Upd.ofBelow hb2
      have HQ2 := Lib.hid (HQ1.out.next u2)
      have HZ2 := Lib.hid (HZ1.out.keep u2 (by simp))
      have HX2 := Lib.hid (HX1.out.keep u2 (by simp))
      have HST2 := Lib.hid (HST1.out.trans (QStep.upd u2 (HQ1.out.base_le) (by simp) (fun k hk => HQ1.out.lt k (by simp [hk]))))
      have HIN2 := Lib.hid (HIN.out.keep u2 (by simp))
      have d0 := u2.cell c0 (by simp)
      have HJ0 : Hid (∀ (k : Nat) (y : It), nl ≤ k → (r p).items[k]? = some y → ¬ y.flow = f) := Lib.hid (fun k y hk hy => by
        have := (List.getElem?_eq_some_iff.1 hy).1; have := HNL.out; omega)
      clear hf hb2 u2 c0 CF
      go_wp2_with fail
      go_loop [7] (fun i => ∃ k : Nat, (k : Int) ≤ nl ∧ i = .int .i64 ((k : Int) - 1) ∧ Hid (∀ (k' : Nat) (y : It), k ≤ k' → (r p).items[k']? = some y → ¬ y.flow = f)) (fun i => (intOf i + 1).toNat)
      case atStart => exact ⟨nl, by omega, rfl, HJ0⟩
      case round =>
        obtain ⟨k, hk, rfl, HJ⟩ := hrel
        clear HJ0
        have hk0 : k ≠ 0 := by
          rintro rfl
          obtain ⟨k, y, hy, hyf⟩ := HF.out.is
          exact HJ.out k y (by omega) hy hyf
        obtain ⟨k, rfl⟩ : ∃ k', k = k' + 1 := ⟨k - 1, by omega⟩
        rw [show (((k + 1 : Nat) : Int) - 1) = (k : Int) by omega]
        obtain ⟨x, hx⟩ : ∃ x, (r p).items[k]? = some x := ⟨(r p).items[k]'(by rw [HNL.out]; omega), by simp⟩
        obtain ⟨-, -, x2⟩ := HIN2.out k x hx
        have k0 : (0 : Int) ≤ k := by omega
        have k1 : (k : Int) < nl := by omega
        have CR := Lib.hid (remove_qs base b most n r _ p k x w2 HQ2.out HP.out hx)
        by_cases hxf : x.flow = f
        · have hd : (x.flow == f) = true := by simpa using hxf
          have HSH := Lib.hid (ShedIs.some (r := r) p k f x HP.out HE.out HF.out hx hxf (fun k' y hk' hy => HJ.out k' y (by omega) hy))
          obtain ⟨xi, xp, xf⟩ := x
          dsimp only at x2 hd hxf
          subst hxf
          clear hx hd
          go_wp2_with fail
          refine CR.out.mono ?_
          rintro e w3 ⟨rfl, hq3, hst3⟩
          obtain ⟨r', hr'⟩ : ∃ r', upd r p ⟨(r p).items.eraseIdx k, (r p).taken, (r p).last⟩ = r' := ⟨_, rfl⟩
          rw [hr'] at hq3 HSH
          have HQ3 := Lib.hid hq3
          have HST3 := Lib.hid (HST2.out.trans (hst3.sub (by simp +contextual)))
          have HX3 := Lib.hid (hst3.block (by simp) HX2.out)
          have HZ3 := Lib.hid (hst3.block (by simp) HZ2.out)
          have e0 := HX3.out.cell 0 _ rfl
          have e1 := HX3.out.cell 1 _ rfl
          have e2 := HX3.out.cell 2 _ rfl
          have f0 := HX3.out.free 0
          have f1 := HX3.out.free 1
          have f2 := HX3.out.free 2
          have HX4 : Hid (BlockAt (((w3.setCell ⟨X, 0, none⟩ (.int .i64 xi)).setCell ⟨X, 1, none⟩ (.int .i64 xp)).setCell ⟨X, 2, none⟩ (.int .i64 xf)) X 27 [.int .i64 xi, .int .i64 xp, .int .i64 xf]) := Lib.hid (((HX3.out.set 0 _).set 1 _).set 2 _)
          have hu4 : Upd [X] w3 (((w3.setCell ⟨X, 0, none⟩ (.int .i64 xi)).setCell ⟨X, 1, none⟩ (.int .i64 xp)).setCell ⟨X, 2, none⟩ (.int .i64 xf)) := ((Upd.setCell' _ _ _ (by simp)).trans (Upd.setCell' _ _ _ (by simp))).trans (Upd.setCell' _ _ _ (by simp))
          have hq4 := hq3.write hu4 (by simp)
          have HQ4 := Lib.hid hq4
          have HZ4 := Lib.hid (HZ3.out.keep hu4 (by simp; exact hZX))
          have HST4 := Lib.hid (HST3.out.trans (QStep.upd hu4 hq3.base_le (by have := HBX.out; simp; exact ⟨this.2.2.2.1, this.2.2.2.2.1⟩) (fun k hk => hq3.lt k (by simp [hk]))))
          obtain ⟨-, n4, fn4⟩ := hq4.cells
          have HQ5 := Lib.hid (hq4.count (n - 1))
          have hX5 := HX4.out.setOther (a := ⟨b, 1, none⟩) HBX.out.1 (.int .i64 (n - 1))
          have hZ5 := HZ4.out.setOther (a := ⟨b, 1, none⟩) HBX.out.2.1 (.int .i64 (n - 1))
          have hu5 := Upd.setCell (((w3.setCell ⟨X, 0, none⟩ (.int .i64 xi)).setCell ⟨X, 1, none⟩ (.int .i64 xp)).setCell ⟨X, 2, none⟩ (.int .i64 xf)) ⟨b, 1, none⟩ (.int .i64 (n - 1))
          have HST5 := Lib.hid (HST4.out.trans (QStep.upd hu5 hq4.base_le (by simp; exact ⟨hq4.blk_lt.2, fun hh => hq4.ne b (by simp [hh]) rfl⟩) (fun k hk => hq4.lt k (by simp [hk]))))
          have g0 := hX5.cell 0 _ rfl
          have g1 := hX5.cell 1 _ rfl
          have g2 := hX5.cell 2 _ rfl
          have z0 := hZ5.cell 0 _ rfl
          have z1 := hZ5.cell 1 _ rfl
          have z2 := hZ5.cell 2 _ rfl
          have y0 := hZ5.free 0
          have y1 := hZ5.free 1
          have y2 := hZ5.free 2
          have HZ5 := Lib.hid hZ5
          clear hq3 hst3 hu4 hq4 CR d0 x2 hr' hX5 hZ5 hu5 HX4 HQ4 HZ4 HST4 HX3 HZ3 HST3 HQ3
          unfold It.val
          dsimp only
          go_wp2_with fail
          rw [Exit.noGoto_ret]
          obtain ⟨W5, hW5⟩ : ∃ W, ((((w3.setCell ⟨X, 0, none⟩ (.int .i64 xi)).setCell ⟨X, 1, none⟩ (.int .i64 xp)).setCell ⟨X, 2, none⟩ (.int .i64 xf)).setCell ⟨b, 1, none⟩ (.int .i64 (n - 1))) = W := ⟨_, rfl⟩
          rw [hW5] at HQ5 HST5 HZ5
          have hz6 : BlockAt (((W5.setCell ⟨Z, 0, none⟩ (.int .i64 xi)).setCell ⟨Z, 1, none⟩ (.int .i64 xp)).setCell ⟨Z, 2, none⟩ (.int .i64 xf)) Z 27 [.int .i64 xi, .int .i64 xp, .int .i64 xf] := ((HZ5.out.set 0 _).set 1 _).set 2 _
          have hu6 : Upd [Z] W5 (((W5.setCell ⟨Z, 0, none⟩ (.int .i64 xi)).setCell ⟨Z, 1, none⟩ (.int .i64 xp)).setCell ⟨Z, 2, none⟩ (.int .i64 xf)) := ((Upd.setCell' _ _ _ (by simp)).trans (Upd.setCell' _ _ _ (by simp))).trans (Upd.setCell' _ _ _ (by simp))
          have hq6 := (HQ5.out.write hu6 (by simp)).sub (T := S) (by simp +contextual)
          have hst6 := HST5.out.trans (QStep.upd hu6 HQ5.out.base_le (by have := HBX.out; simp; exact ⟨this.2.2.1, this.2.2.2.2.2⟩) (fun k hk => HQ5.out.lt k (by simp [hk])))
          rw [hW5]
          obtain ⟨W6, hW6⟩ : ∃ W, (((W5.setCell ⟨Z, 0, none⟩ (.int .i64 xi)).setCell ⟨Z, 1, none⟩ (.int .i64 xp)).setCell ⟨Z, 2, none⟩ (.int .i64 xf)) = W := ⟨_, rfl⟩
          rw [hW6] at hz6 hq6 hst6 ⊢
          have q0 := hz6.cell 0 _ rfl
          have q1 := hz6.cell 1 _ rfl
          have q2 := hz6.cell 2 _ rfl
          refine bodyPost_ret (v := .agg #[.int .i64 xi, .int .i64 xp, .int .i64 xf]) (by simp [results, Try.results26, go_sem, q0, q1, q2]) rfl ?_
          exact ⟨r', ⟨xi, xp, xf⟩, HSH.out, rfl, hq6, hst6⟩
        · have hd : (x.flow == f) = false := by simpa using hxf
          have HJN : Hid (∀ (k' : Nat) (y : It), k ≤ k' → (r p).items[k']? = some y → ¬ y.flow = f) := Lib.hid (fun k' y hk' hy => by
            rcases (show k' = k ∨ k + 1 ≤ k' by omega) with rfl | hh
            · rw [hx] at hy; cases hy; exact hxf
            · exact HJ.out k' y hh hy)
          obtain ⟨xi, xp, xf⟩ := x
          dsimp only at x2 hd
          clear hx hxf CR
          go_wp2_with fail
          go_round
          case rel => exact ⟨k, by omega, rfl, HJN⟩
          case measure => simp [intOf] <;> omega
end Go.Proofs.Ytapoikegoknlcaa
