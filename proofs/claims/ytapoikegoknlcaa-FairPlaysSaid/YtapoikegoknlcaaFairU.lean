/- Layer 22: rows by their priorities, how many there are, what All tells and Take takes. -/
import Derived.Test.YtapoikegoknlcaaFairT
namespace Go.Proofs.Ytapoikegoknlcaa
open Go.RowKit
def totN (r : Nat → Row) : Nat := (r 0).items.length + (r 1).items.length + (r 2).items.length + (r 3).items.length
theorem tot_upd {r : Nat → Row} {p : Nat} (hp : p < 4) (y : Row) : totN (upd r p y) + (r p).items.length = totN r + y.items.length := by
  unfold totN
  rcases (show p = 0 ∨ p = 1 ∨ p = 2 ∨ p = 3 by omega) with rfl | rfl | rfl | rfl <;> simp [upd] <;> omega
theorem tot_row {r : Nat → Row} {p : Nat} (hp : p < 4) : (r p).items.length ≤ totN r := by
  unfold totN
  rcases (show p = 0 ∨ p = 1 ∨ p = 2 ∨ p = 3 by omega) with rfl | rfl | rfl | rfl <;> omega
structure RowsOk (r : Nat → Row) (n : Int) : Prop where
  prio : ∀ p, p < 4 → ∀ x ∈ (r p).items, x.prio = (p : Int)
  tot : n = (totN r : Int)
theorem RowsOk.nil : RowsOk (fun _ => ⟨[], false, 0⟩) 0 := ⟨fun p _ x hx => (by cases hx), rfl⟩
theorem RowsOk.row {r : Nat → Row} {n : Int} (h : RowsOk r n) {p : Nat} (hp : p < 4) : ((r p).items.length : Int) ≤ n := by
  have := tot_row (r := r) hp; have := h.tot; omega
theorem RowsOk.ne {r : Nat → Row} {n : Int} (h : RowsOk r n) {p : Nat} (hp : p < 4) (hne : (r p).items ≠ []) : 1 ≤ n := by
  have := h.row hp; have := List.length_pos_iff.2 hne; omega
theorem RowsOk.erase {r : Nat → Row} {n : Int} (h : RowsOk r n) {p i : Nat} {x : It} (hp : p < 4) (hx : (r p).items[i]? = some x) (tk : Bool) (last : Int) : RowsOk (upd r p ⟨(r p).items.eraseIdx i, tk, last⟩) (n - 1) := by
  have hil := (List.getElem?_eq_some_iff.1 hx).1
  refine ⟨fun q hq y hy => ?_, ?_⟩
  · by_cases e : q = p
    · subst e; rw [upd_same] at hy; exact h.prio q hq y (List.mem_of_mem_eraseIdx hy)
    · rw [upd_other _ _ e] at hy; exact h.prio q hq y hy
  · have := tot_upd (r := r) hp ⟨(r p).items.eraseIdx i, tk, last⟩
    dsimp only at this
    rw [List.length_eraseIdx, if_pos hil] at this
    have := h.tot
    omega
theorem RowsOk.add {r : Nat → Row} {n : Int} (h : RowsOk r n) {p : Nat} {x : It} (hp : p < 4) (hx : x.prio = (p : Int)) : RowsOk (addIt r p x) (n + 1) := by
  refine ⟨fun q hq y hy => ?_, ?_⟩
  · unfold addIt at hy
    by_cases e : q = p
    · subst e; rw [upd_same] at hy
      rcases List.mem_append.1 hy with hy | hy
      · exact h.prio q hq y hy
      · simp at hy; subst hy; exact hx
    · rw [upd_other _ _ e] at hy; exact h.prio q hq y hy
  · have := tot_upd (r := r) hp ⟨(r p).items ++ [x], (r p).taken, (r p).last⟩
    simp at this
    have := h.tot
    unfold addIt; omega
theorem RowsOk.shed {r r' : Nat → Row} {n : Int} {y : It} (h : RowsOk r n) (hs : ShedIs r r' y) : RowsOk r' (n - 1) ∧ (∃ p : Nat, p < 4 ∧ y.prio = (p : Int) ∧ ∀ q, q < p → (r q).items = []) := by
  cases hs with
  | some p i f x h1 h2 h3 h4 h5 h6 => exact ⟨h.erase h1 h4 _ _, p, h1, h.prio p h1 _ (List.mem_of_getElem? h4), h2⟩
theorem RowsOk.put {most n n' : Int} {r r' : Nat → Row} {p : Nat} {x y : It} {is : Bool} (h : RowsOk r n) (hp : p < 4) (hx : x.prio = (p : Int)) (hput : PutIs most n r p x r' n' y is) : RowsOk r' n' := by
  cases hput with
  | room hr => exact h.add hp hx
  | over r' y ho hs => have := ((h.add hp hx).shed hs).1; simpa using this
theorem RowsOk.take {n : Int} {r r' : Nat → Row} {x : It} {is : Bool} (h : RowsOk r n) (ht : TakeIs r r' x is) : RowsOk r' (if is then n - 1 else n) := by
  cases ht with
  | none h0 => simpa using h
  | some p i f x h1 h2 h3 h4 h5 h6 => simpa using h.erase h1 h4 _ _
theorem RowsOk.drop {n : Int} {r r' : Nat → Row} {id : Int} {is : Bool} (h : RowsOk r n) (hd : DropIs r id r' is) : RowsOk r' (if is then n - 1 else n) := by
  cases hd with
  | none h0 => simpa using h
  | some p i h1 h2 h3 =>
    obtain ⟨x, hx, -⟩ := h3.1
    simpa using h.erase h1 hx _ _
/-- All, of its parts. -/
theorem AllR.mk {r : Nat → Row} {o3 o2 o1 o0 : List It} (h3 : RRun (r 3).items (r 3).taken (r 3).last o3) (h2 : RRun (r 2).items (r 2).taken (r 2).last o2) (h1 : RRun (r 1).items (r 1).taken (r 1).last o1) (h0 : RRun (r 0).items (r 0).taken (r 0).last o0) : AllR r 0 (o3 ++ o2 ++ o1 ++ o0) := by
  have := AllR.cons 0 _ _ (AllR.cons 1 _ _ (AllR.cons 2 _ _ (AllR.cons 3 [] o3 AllR.nil h3) h2) h1) h0
  simpa using this
theorem AllR.unique {r : Nat → Row} {o o' : List It} (h : AllR r 0 o) (h' : AllR r 0 o') : o = o' := by
  obtain ⟨a3, a2, a1, a0, r3, r2, r1, r0, rfl⟩ := h.parts
  obtain ⟨b3, b2, b1, b0, s3, s2, s1, s0, rfl⟩ := h'.parts
  rw [r3.unique s3, r2.unique s2, r1.unique s1, r0.unique s0]
theorem AllR.length {r : Nat → Row} {o : List It} (h : AllR r 0 o) : o.length = totN r := by
  obtain ⟨a3, a2, a1, a0, r3, r2, r1, r0, rfl⟩ := h.parts
  have := r3.perm.length_eq; have := r2.perm.length_eq; have := r1.perm.length_eq; have := r0.perm.length_eq
  simp [totN]; omega
theorem RRun.take {l : List It} {tk : Bool} {last : Int} {o : List It} (h : RRun l tk last o) {i : Nat} {f : Int} {x : It} (hn : NextOk l tk last f) (hx : l[i]? = some x) (hf : x.flow = f) (hfst : ∀ (k : Nat) (y : It), k < i → l[k]? = some y → ¬ y.flow = f) : ∃ o', o = x :: o' ∧ RRun (l.eraseIdx i) true f o' := by
  cases h with
  | nil => simp at hx
  | cons _ _ _ j y o2 k1 k2 k3 k4 =>
    have e := hn.unique k1
    obtain ⟨rfl, rfl⟩ := first_unique (p := fun z => z.flow = f) hx hf hfst k2 e.symm (fun k z hk hz => by rw [e]; exact k3 k z hk hz)
    exact ⟨o2, rfl, by rw [← hf]; exact k4⟩
theorem AllR.take {r r' : Nat → Row} {o : List It} {x : It} {is : Bool} (h : AllR r 0 o) (ht : TakeIs r r' x is) : (is = true ∧ ∃ o', o = x :: o' ∧ AllR r' 0 o') ∨ (is = false ∧ o = []) := by
  obtain ⟨a3, a2, a1, a0, r3, r2, r1, r0, rfl⟩ := h.parts
  cases ht with
  | none h0 =>
    rw [h0 3 (by omega)] at r3; rw [h0 2 (by omega)] at r2; rw [h0 1 (by omega)] at r1; rw [h0 0 (by omega)] at r0
    exact .inr ⟨rfl, by rw [r3.nil_inv, r2.nil_inv, r1.nil_inv, r0.nil_inv]; rfl⟩
  | some p i f x h1 h2 h3 h4 h5 h6 =>
    refine .inl ⟨rfl, ?_⟩
    have hz : ∀ (q : Nat) (o : List It), p < q → q < 4 → RRun (r q).items (r q).taken (r q).last o → o = [] := fun q o hq hq4 hr => by
      rw [h2 q hq hq4] at hr; exact hr.nil_inv
    rcases (show p = 0 ∨ p = 1 ∨ p = 2 ∨ p = 3 by omega) with rfl | rfl | rfl | rfl
    · obtain ⟨o', rfl, hr⟩ := r0.take h3 h4 h5 h6
      rw [hz 3 a3 (by omega) (by omega) r3, hz 2 a2 (by omega) (by omega) r2, hz 1 a1 (by omega) (by omega) r1]
      refine ⟨o', rfl, ?_⟩
      have := AllR.mk (r := upd r 0 ⟨(r 0).items.eraseIdx i, true, f⟩) (o3 := a3) (o2 := a2) (o1 := a1) (o0 := o') r3 r2 r1 hr
      rwa [hz 3 a3 (by omega) (by omega) r3, hz 2 a2 (by omega) (by omega) r2, hz 1 a1 (by omega) (by omega) r1] at this
    · obtain ⟨o', rfl, hr⟩ := r1.take h3 h4 h5 h6
      rw [hz 3 a3 (by omega) (by omega) r3, hz 2 a2 (by omega) (by omega) r2]
      refine ⟨o' ++ a0, rfl, ?_⟩
      have := AllR.mk (r := upd r 1 ⟨(r 1).items.eraseIdx i, true, f⟩) (o3 := a3) (o2 := a2) (o1 := o') (o0 := a0) r3 r2 hr r0
      rwa [hz 3 a3 (by omega) (by omega) r3, hz 2 a2 (by omega) (by omega) r2] at this
    · obtain ⟨o', rfl, hr⟩ := r2.take h3 h4 h5 h6
      rw [hz 3 a3 (by omega) (by omega) r3]
      refine ⟨o' ++ a1 ++ a0, rfl, ?_⟩
      have := AllR.mk (r := upd r 2 ⟨(r 2).items.eraseIdx i, true, f⟩) (o3 := a3) (o2 := o') (o1 := a1) (o0 := a0) r3 hr r1 r0
      rwa [hz 3 a3 (by omega) (by omega) r3] at this
    · obtain ⟨o', rfl, hr⟩ := r3.take h3 h4 h5 h6
      exact ⟨o' ++ a2 ++ a1 ++ a0, rfl, AllR.mk (r := upd r 3 ⟨(r 3).items.eraseIdx i, true, f⟩) (o3 := o') (o2 := a2) (o1 := a1) (o0 := a0) hr r2 r1 r0⟩
/-- By their priorities, falling. -/
theorem AllR.falls {r : Nat → Row} {n : Int} {o : List It} (hr : RowsOk r n) (h : AllR r 0 o) : o.Pairwise (fun x y => y.prio ≤ x.prio) := by
  obtain ⟨a3, a2, a1, a0, r3, r2, r1, r0, rfl⟩ := h.parts
  have e : ∀ (q : Nat) (o : List It), q < 4 → RRun (r q).items (r q).taken (r q).last o → ∀ x ∈ o, x.prio = (q : Int) := fun q o hq hh x hx => hr.prio q hq x (hh.perm.mem_iff.1 hx)
  have p : ∀ (q : Nat) (o : List It), q < 4 → RRun (r q).items (r q).taken (r q).last o → o.Pairwise (fun x y => y.prio ≤ x.prio) := fun q o hq hh => by
    refine List.pairwise_of_forall_mem_list (fun x hx y hy => ?_)
    rw [e q o hq hh x hx, e q o hq hh y hy]; exact Int.le_refl _
  have e3 := e 3 a3 (by omega) r3
  have e2 := e 2 a2 (by omega) r2
  have e1 := e 1 a1 (by omega) r1
  have e0 := e 0 a0 (by omega) r0
  refine List.pairwise_append.2 ⟨List.pairwise_append.2 ⟨List.pairwise_append.2 ⟨p 3 a3 (by omega) r3, p 2 a2 (by omega) r2, fun x hx y hy => ?_⟩, p 1 a1 (by omega) r1, fun x hx y hy => ?_⟩, p 0 a0 (by omega) r0, fun x hx y hy => ?_⟩
  · rw [e3 x hx, e2 y hy]; omega
  · rw [e1 y hy]
    rcases List.mem_append.1 hx with hx | hx
    · rw [e3 x hx]; omega
    · rw [e2 x hx]; omega
  · rw [e0 y hy]
    rcases List.mem_append.1 hx with hx | hx
    · rcases List.mem_append.1 hx with hx | hx
      · rw [e3 x hx]; omega
      · rw [e2 x hx]; omega
    · rw [e1 x hx]; omega
theorem AllR.mem {r : Nat → Row} {o : List It} (h : AllR r 0 o) {x : It} (hx : x ∈ o) : ∃ q, q < 4 ∧ x ∈ (r q).items := by
  obtain ⟨a3, a2, a1, a0, r3, r2, r1, r0, rfl⟩ := h.parts
  simp only [List.mem_append] at hx
  rcases hx with ((hx | hx) | hx) | hx
  · exact ⟨3, by omega, r3.perm.mem_iff.1 hx⟩
  · exact ⟨2, by omega, r2.perm.mem_iff.1 hx⟩
  · exact ⟨1, by omega, r1.perm.mem_iff.1 hx⟩
  · exact ⟨0, by omega, r0.perm.mem_iff.1 hx⟩
/-- What the reference makes of a number. -/
def mkIt (n id : Int) : It := ⟨id, around n 100000 % 4, around n 100000 / 4 % 5⟩
theorem mkIt_prio (n id : Int) : ∃ p : Nat, p < 4 ∧ (mkIt n id).prio = (p : Int) := by
  have := around_nonneg n 100000 (by omega)
  exact ⟨(around n 100000 % 4).toNat, by omega, by show around n 100000 % 4 = _; omega⟩
theorem mkIt_flow (n id : Int) : 0 ≤ (mkIt n id).flow ∧ (mkIt n id).flow < 5 := by
  have := around_nonneg n 100000 (by omega)
  show 0 ≤ around n 100000 / 4 % 5 ∧ around n 100000 / 4 % 5 < 5
  omega
/-- A queue that some were put to. -/
inductive Puts (most : Int) : Nat → (Nat → Row) → Int → Prop
  | nil : Puts most 0 (fun _ => ⟨[], false, 0⟩) 0
  | cons (i : Nat) (r r' : Nat → Row) (n n' : Int) (p : Nat) (x y : It) (is : Bool) : Puts most i r n → p < 4 → x.prio = (p : Int) → x.id = (i : Int) → PutIs most n r p x r' n' y is → Puts most (i + 1) r' n'
theorem Puts.ok {most : Int} {i : Nat} {r : Nat → Row} {n : Int} (h : Puts most i r n) : RowsOk r n := by
  induction h with
  | nil => exact RowsOk.nil
  | cons i r r' n n' p x y is _ hp hx _ hput ih => exact ih.put hp hx hput
theorem Puts.len {most : Int} {i : Nat} {r : Nat → Row} {n : Int} (h : Puts most i r n) (hm : 0 ≤ most) : n = min (i : Int) most := by
  induction h with
  | nil => omega
  | cons i r r' n n' p x y is _ hp hx _ hput ih =>
    cases hput with
    | room hr => omega
    | over r' y ho hs => omega
set_option maxHeartbeats 2000000 in
theorem filled_qs (most : Int) (l : Value) (zs : List Int) (w : World) (hl : IntsIn w l zs) (hm0 : 0 ≤ most) (hm : most ≤ 1000) :
    Calls Try.prog 17 #[.int .i64 most, l] w fun e w' => ∃ r n, Puts most (min zs.length 20) r n ∧ e = .returned (.pointer (some ⟨w.heap.size, 0, none⟩)) ∧ QPost w.heap.size w.heap.size most n r [] w w' := by
  have CN := Lib.hid (newQ_qs most w.heap.size [] w (Nat.le_refl _) (by simp))
  obtain ⟨a, cap, rfl, hln, hr, hcs⟩ := hl
  have HCS := Lib.hid hcs
  have HR := Lib.hid hr
  have hll : (zs.length : Int) ≤ 9223372036854775807 := by omega
  clear hcs hr hln
  go_enter Try.func17, Try.ntmps17
  go_wp2_with fail
  refine CN.out.mono ?_
  rintro e w1 ⟨rfl, hq, hst⟩
  obtain ⟨b, hbe⟩ : ∃ b, w.heap.size = b := ⟨_, rfl⟩
  have HQ1 : Hid (QS w.heap.size w1 b most 0 (fun _ => ⟨[], false, 0⟩) [] ∧ QStep w.heap.size [] w w1) := Lib.hid ⟨by rw [← hbe]; exact hq, hst⟩
  have HBE := Lib.hid hbe
  have HP0 := Lib.hid (Puts.nil (most := most))
  rw [hbe]
  clear hq hst hbe CN
  go_wp2_with fail
  go_loopw [6] (fun i wr => ∃ (j : Nat) (r : Nat → Row) (n : Int), j ≤ 20 ∧ j ≤ zs.length ∧ i = .int .i64 j ∧ Hid (QS w.heap.size wr b most n r [] ∧ QStep w.heap.size [] w wr) ∧ Hid (Puts most j r n)) (fun i _ => 20 - (intOf i).toNat)
  case atStart => exact ⟨0, _, 0, by omega, by omega, rfl, HQ1, HP0⟩
  case round =>
    obtain ⟨j, r, n, hj20, hjn, rfl, HQ, HP⟩ := hrel
    clear HQ1 HP0
    by_cases hl1 : j < zs.length
    · by_cases hl2 : j < 20
      · obtain ⟨z, hz⟩ : ∃ z, zs[j]? = some z := ⟨zs[j], by simp [hl1]⟩
        have hzr := HR.out z (List.mem_of_getElem? hz)
        obtain ⟨ab, off, rfl, hc0⟩ : ∃ b off, a = some ⟨b, off, none⟩ ∧ w.cell? ⟨b, off + j, none⟩ = some (.int .i64 z) := by
          rcases HCS.out with h | ⟨b, off, rfl, hc⟩
          · subst h; simp at hz
          · exact ⟨b, off, rfl, by rw [hc j hl1, List.getD, hz]; rfl⟩
        have hcell : wr.cell? ⟨ab, off + j, none⟩ = some (.int .i64 z) := (Upd.ofBelow HQ.out.2.below).cell hc0 (by simp)
        have CI := Lib.hid (fun w => item_any z j w hzr.1 hzr.2)
        obtain ⟨p, hp, hpx⟩ := mkIt_prio z j
        have HX := Lib.hid (And.intro hp hpx)
        obtain ⟨x, hx⟩ : ∃ x, mkIt z j = x := ⟨_, rfl⟩
        have hxid : x.id = (j : Int) := by rw [← hx]; rfl
        have HXI := Lib.hid hxid
        rw [show (⟨(j : Int), around z 100000 % 4, around z 100000 / 4 % 5⟩ : It) = x from hx] at CI
        rw [hx] at HX
        have j0 : (0 : Int) ≤ j := by omega
        have hl1' : (j : Int) < zs.length := by omega
        clear hz hc0 hzr hp hpx hx hxid hl1
        go_wp2_with fail
        refine (CI.out _).mono ?_
        rintro e w2 ⟨rfl, hb2⟩
        have HQ2 : Hid (QS w.heap.size w2 b most n r [] ∧ QStep w.heap.size [] w w2) := Lib.hid ⟨HQ.out.1.next (Upd.ofBelow hb2), HQ.out.2.trans (QStep.upd (Upd.ofBelow hb2) HQ.out.1.base_le (by simp) (by simp))⟩
        clear hb2 CI hcell
        have CP := Lib.hid (put_qs w.heap.size b most n r [] p x w2 HQ2.out.1 HX.out.1 HX.out.2 (by have := HP.out.len hm0; omega) (by have := HP.out.len hm0; omega) (fun q hq => by have := HP.out.ok.row hq; have := HP.out.len hm0; omega) (by omega) (by omega))
        go_wp2_with fail
        refine CP.out.mono ?_
        rintro e w3 ⟨r', n', y, is, hput, rfl, hq3, hst3⟩
        have HQ3 : Hid (QS w.heap.size w3 b most n' r' [] ∧ QStep w.heap.size [] w w3) := Lib.hid ⟨hq3, HQ2.out.2.trans hst3⟩
        have HP3 := Lib.hid (Puts.cons j r r' n n' p x y is HP.out HX.out.1 HX.out.2 HXI.out hput)
        clear hput hq3 hst3 CP
        go_wp2_with fail
        go_roundw
        case rel => exact ⟨j + 1, r', n', by omega, by omega, by go_num, HQ3, HP3⟩
        case measure => simp [intOf] <;> omega
      · have hjm : j = min zs.length 20 := by omega
        rw [hjm] at HP
        go_wp2_with fail
        go_ret
        exact ⟨r, n, HP.out, by rw [HBE.out]; rfl, Eq.mpr (congrArg (fun b => QS w.heap.size wr b most n r []) HBE.out) HQ.out.1, HQ.out.2⟩
    · have hjm : j = min zs.length 20 := by omega
      rw [hjm] at HP
      go_wp2_with fail
      go_ret
      exact ⟨r, n, HP.out, by rw [HBE.out]; rfl, Eq.mpr (congrArg (fun b => QS w.heap.size wr b most n r []) HBE.out) HQ.out.1, HQ.out.2⟩
end Go.Proofs.Ytapoikegoknlcaa
