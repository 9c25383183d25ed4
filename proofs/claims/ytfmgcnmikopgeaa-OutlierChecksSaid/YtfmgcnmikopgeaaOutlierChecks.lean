/- Layer 14: the walk of OutlierChecks. -/
import Derived.Test.YtfmgcnmikopgeaaOutO
import Derived.RegionTactic
import Derived.Deep.RegionHeld3
import Derived.Deep.DeepCutAuto
import Derived.BigRegion
namespace Go.Proofs.Ytfmgcnmikopgeaa
open Go.RowKit
def IV (x : Int) : Value := .int .i64 x
/-- A watch's numbers, one of them another one. -/
def Wt.ints (t : Wt) : List Int := [t.errors, t.window, t.dev, t.slow, t.share, t.base, t.top]
theorem seven_of {l : List Int} (h : l.length = 7) : ∃ a b c d e f g, l = [a, b, c, d, e, f, g] := by
  match l, h with
  | [a, b, c, d, e, f, g], _ => exact ⟨a, b, c, d, e, f, g, rfl⟩
structure TwoW (w W : World) (A X : Nat) (a t : Wt) : Prop where
  a : BlockAt W A 24 a.cells
  x : BlockAt W X 24 t.cells
  h : Below w.heap.size w W
  la : w.heap.size ≤ A
  lx : A < X
theorem Wt.ofInts {l : List Int} (h : l.length = 7) : ∃ y : Wt, y.ints = l := by
  obtain ⟨a, b, c, d, e, f, g, rfl⟩ := seven_of h
  exact ⟨⟨a, b, c, d, e, f, g⟩, rfl⟩
structure LisW (w W W4 : World) (A X L d : Nat) (k : Int) (a t y : Wt) : Prop where
  cell : ∃ z, W.cell? ⟨L, d, none⟩ = some (.int .i64 z)
  free : W.frozen? ⟨L, d, none⟩ = false
  l : BlockAt W4 L 3 (y.ints.map (Value.int .i64))
  two : TwoW w W4 A X a t
theorem TwoW.list {w W2 : World} {A X : Nat} {a t : Wt} (h : TwoW w W2 A X a t) (d : Nat) (hd : d < 7) (k : Int) :
    ∃ W L y, W = W2.alloc (.cells #[.int .i64 t.errors, .int .i64 t.window, .int .i64 t.dev, .int .i64 t.slow, .int .i64 t.share, .int .i64 t.base, .int .i64 t.top] 3) ∧ L = W2.heap.size ∧ LisW w W (W.setCell ⟨L, d, none⟩ (.int .i64 k)) A X L d k a t y := by
  obtain ⟨y, hy⟩ := Wt.ofInts (l := t.ints.set d k) (by simp [Wt.ints])
  have hb : BlockAt (W2.alloc (.cells #[.int .i64 t.errors, .int .i64 t.window, .int .i64 t.dev, .int .i64 t.slow, .int .i64 t.share, .int .i64 t.base, .int .i64 t.top] 3)) W2.heap.size 3 (t.ints.map (Value.int .i64)) := BlockAt.new W2 _ (t.ints.map (Value.int .i64))
  have hlt := h.a.lt
  have hlx := h.x.lt
  have hs := h.h.size
  refine ⟨_, _, y, rfl, rfl, ⟨t.ints.getD d 0, ?_⟩, hb.free d, ?_, ?_⟩
  · refine hb.cell d _ ?_
    have : d < t.ints.length := by simpa [Wt.ints] using hd
    simp [List.getElem?_eq_getElem this, List.getD]
  · have := hb.set d (.int .i64 k)
    rw [hy, List.map_set]
    exact this
  · have hu : Upd [W2.heap.size] W2 ((W2.alloc (.cells #[.int .i64 t.errors, .int .i64 t.window, .int .i64 t.dev, .int .i64 t.slow, .int .i64 t.share, .int .i64 t.base, .int .i64 t.top] 3)).setCell ⟨W2.heap.size, d, none⟩ (.int .i64 k)) := (Upd.alloc _ _ _).trans (Upd.setCell' _ _ _ (by simp))
    exact ⟨h.a.keep hu (by simp; omega), h.x.keep hu (by simp; omega), h.h.trans (hu.below hs (by simpa using hs)), h.la, h.lx⟩
structure FourW (w W : World) (A X L : Nat) (a t y : Wt) : Prop where
  l : BlockAt W L 3 (y.ints.map (Value.int .i64))
  two : TwoW w W A X a t
theorem FourW.next {w W W' : World} {A X L : Nat} {a t y : Wt} (h : FourW w W A X L a t y) (u : Upd [] W W') : FourW w W' A X L a t y :=
  ⟨h.l.keep u (by simp), h.two.a.keep u (by simp), h.two.x.keep u (by simp), h.two.h.trans (u.below h.two.h.size (by simp)), h.two.la, h.two.lx⟩
structure ThreeW (w W : World) (A X Y : Nat) (a t y : Wt) : Prop where
  a : BlockAt W A 24 a.cells
  x : BlockAt W X 24 t.cells
  y : BlockAt W Y 24 y.cells
  h : Below w.heap.size w W
theorem ThreeW.next {w W W' : World} {A X Y : Nat} {a t y : Wt} (h : ThreeW w W A X Y a t y) (hb : Below W.heap.size W W') : ThreeW w W' A X Y a t y :=
  ⟨h.a.keep (Upd.ofBelow hb) (by simp), h.x.keep (Upd.ofBelow hb) (by simp), h.y.keep (Upd.ofBelow hb) (by simp), h.h.trans (hb.mono h.h.size)⟩
theorem three_held {P : Program} {f : FuncId} {args : Array Value} {w W : World} {A X Y : Nat} {a t y : Wt} {v : Value} (hc : Calls P f args W fun e w' => e = .returned v ∧ Below W.heap.size W w') (h : Hid (ThreeW w W A X Y a t y)) :
    Calls P f args W fun e W => e = .returned v ∧ Hid (ThreeW w W A X Y a t y) :=
  hc.mono fun _ _ ⟨he, hb⟩ => ⟨he, h.out.next hb⟩
/-- A watch is loaded whole. -/
theorem load_watch {W : World} {A : Nat} {t : Wt} (h : BlockAt W A 24 t.cells) (ρ : Operand → Value) (o : Oper) (x : Operand) (ho : o.op = .load 24 x) (hx : ρ x = .pointer (some ⟨A, 0, none⟩)) : (execOp ρ o).run Try.prog W = .ok (.value t.val) W := by
  unfold BlockAt at h
  have hr : (loadVar 24 ⟨A, 0, none⟩).run Try.prog W = .ok t.val W := run_loadVar_row W A 24 24 t.cells.toArray (0, 0) _ h Try.underlying24 rfl (by kernel_rfl)
  unfold execOp
  simp only [ho, hx, Instr.loadAt, Instr.sureAddr, Sem.run_bind, Sem.run_pure, Result.andThen_ok, hr]
set_option maxRecDepth 100000 in
set_option maxHeartbeats 4000000 in
theorem checks_walk (a : Wt) (n at0 k : Int) (w : World) (hn1 : -9223372036854775808 ≤ n) (hn2 : n ≤ 9223372036854775807) (ha1 : -9223372036854775808 ≤ at0) (ha2 : at0 ≤ 9223372036854775807) :
    Calls Try.prog 6 #[a.val, .int .i64 n, .int .i64 at0, .int .i64 k] w (TruePost w) := by
  have CW := Lib.hid (fun w => watch_any n w hn1 hn2)
  have CA := Lib.hid (fun w => around_any at0 7 w ha1 ha2 (by omega))
  have d0 := around_nonneg at0 7 (by omega)
  have d1 := around_lt at0 7 (by omega)
  obtain ⟨d, hd⟩ : ∃ k : Nat, around at0 7 = (k : Int) := ⟨(around at0 7).toNat, by omega⟩
  rw [hd] at CA d0 d1
  have HOK := Lib.hid (watchN_ok n)
  obtain ⟨t, ht⟩ : ∃ t, watchN n = t := ⟨_, rfl⟩
  unfold WatchPost at CW
  rw [ht] at CW HOK
  clear ht hd hn1 hn2 ha1 ha2
  have HA : Hid (BlockAt (w.alloc (.cells #[.int .i64 a.errors, .int .i64 a.window, .int .i64 a.dev, .int .i64 a.slow, .int .i64 a.share, .int .i64 a.base, .int .i64 a.top] 24)) w.heap.size 24 a.cells ∧ Below w.heap.size w (w.alloc (.cells #[.int .i64 a.errors, .int .i64 a.window, .int .i64 a.dev, .int .i64 a.slow, .int .i64 a.share, .int .i64 a.base, .int .i64 a.top] 24))) := Lib.hid ⟨BlockAt.new w _ _, (Below.refl _ _).alloc (Nat.le_refl _) _⟩
  unfold Wt.val at CW ⊢
  go_enter Try.func6, Try.ntmps6
  go_wp2_with fail
  refine (CW.out _).mono ?_
  rintro e w1 ⟨rfl, hb1⟩
  have HW2 : Hid (∃ W A X, W = w1.alloc (.cells #[.int .i64 t.errors, .int .i64 t.window, .int .i64 t.dev, .int .i64 t.slow, .int .i64 t.share, .int .i64 t.base, .int .i64 t.top] 24) ∧ A = w.heap.size ∧ X = w1.heap.size ∧ TwoW w W A X a t) := Lib.hid
    ⟨_, _, _, rfl, rfl, rfl, (HA.out.1.keep (Upd.ofBelow hb1) (by simp)).alloc _, BlockAt.new w1 _ _, (HA.out.2.trans (hb1.mono HA.out.2.size)).alloc (HA.out.2.trans (hb1.mono HA.out.2.size)).size _, Nat.le_refl _, by have := hb1.size; simp at this; omega⟩
  clear CW HA hb1
  go_upto_region 2 with fail
  obtain ⟨W2, A, X, hW2, hA, hX, h2⟩ := HW2.out
  rw [← hX, ← hA]
  rw [← hW2]
  have H2 := Lib.hid h2
  clear HW2 hW2 hA hX
  have c0 := h2.x.cell 0 _ rfl
  have c1 := h2.x.cell 1 _ rfl
  have c2 := h2.x.cell 2 _ rfl
  have c3 := h2.x.cell 3 _ rfl
  have c4 := h2.x.cell 4 _ rfl
  have c5 := h2.x.cell 5 _ rfl
  have c6 := h2.x.cell 6 _ rfl
  clear h2
  go_upto_region 3 with fail
  obtain ⟨W3, L, y, hW3, hL, h3⟩ := H2.out.list d (by omega) k
  rw [← hL]
  rw [← hW3]
  obtain ⟨z, hz⟩ := h3.cell
  have hfz := h3.free
  have H3 := Lib.hid (And.intro h3.l h3.two)
  clear h3 hW3 hL H2 c0 c1 c2 c3 c4 c5 c6
  go_wp2_with fail
  refine (CA.out _).mono ?_
  rintro e w' ⟨rfl, rfl⟩
  clear CA
  go_upto_region 4 with fail
  obtain ⟨W4, hW4⟩ : ∃ W, W3.setCell ⟨L, d, none⟩ (.int .i64 k) = W := ⟨_, rfl⟩
  rw [hW4] at H3 ⊢
  clear hz hfz hW4 d0 d1
  go_cut [11] (fun v wx => ∃ Y, v = .pointer (some ⟨Y, 0, none⟩) ∧ Hid (ThreeW w wx A X Y a t y))
  case first =>
    have hH0 := Lib.hid (FourW.next ⟨H3.out.1, H3.out.2⟩ (Upd.drew [] W4))
    refine wp_region_held_drew (S := fun w' => Hid (FourW w w' A X L a t y)) (by kernel_rfl) hH0 (fun hHeld => ?_)
    clear hH0
    refine wpAnyH_take (i := 0) (v := ?vb0) rfl (by kernel_rfl) (by kernel_rfl) (by kernel_rfl) (fun _ _ _ h => h) (Or.inl ⟨by rfl, ?yb0⟩) (by assumption) ?rb0
    case yb0 =>
      intro W hSw
      go_simp
      all_goals with_reducible rfl
    try simp only [List.getElem_toArray, List.getElem_cons_zero, List.getElem_cons_succ, Act.put, List.setIfInBounds_toArray, List.set_cons_zero, List.set_cons_succ]
    refine wpAnyH_take (i := 1) (v := ?vb1) rfl (by kernel_rfl) (by kernel_rfl) (by kernel_rfl) (fun _ _ _ h => h) (Or.inl ⟨by rfl, ?yb1⟩) (by assumption) ?rb1
    case yb1 =>
      intro W hSw
      go_simp
      all_goals with_reducible rfl
    try simp only [List.getElem_toArray, List.getElem_cons_zero, List.getElem_cons_succ, Act.put, List.setIfInBounds_toArray, List.set_cons_zero, List.set_cons_succ]
    refine wpAnyH_take (i := 2) (v := ?vb2) rfl (by kernel_rfl) (by kernel_rfl) (by kernel_rfl) (fun _ _ _ h => h) (Or.inl ⟨by rfl, ?yb2⟩) (by assumption) ?rb2
    case yb2 =>
      intro W hSw
      have hc := hSw.out.l.cell 0 _ rfl
      go_simp
      all_goals with_reducible rfl
    try simp only [List.getElem_toArray, List.getElem_cons_zero, List.getElem_cons_succ, Act.put, List.setIfInBounds_toArray, List.set_cons_zero, List.set_cons_succ]
    refine wpAnyH_take (i := 3) (v := ?vb3) rfl (by kernel_rfl) (by kernel_rfl) (by kernel_rfl) (fun _ _ _ h => h) (Or.inl ⟨by rfl, ?yb3⟩) (by assumption) ?rb3
    case yb3 =>
      intro W hSw
      go_simp
      all_goals with_reducible rfl
    try simp only [List.getElem_toArray, List.getElem_cons_zero, List.getElem_cons_succ, Act.put, List.setIfInBounds_toArray, List.set_cons_zero, List.set_cons_succ]
    refine wpAnyH_take (i := 4) (v := ?vb4) rfl (by kernel_rfl) (by kernel_rfl) (by kernel_rfl) (fun _ _ _ h => h) (Or.inl ⟨by rfl, ?yb4⟩) (by assumption) ?rb4
    case yb4 =>
      intro W hSw
      go_simp
      all_goals with_reducible rfl
    try simp only [List.getElem_toArray, List.getElem_cons_zero, List.getElem_cons_succ, Act.put, List.setIfInBounds_toArray, List.set_cons_zero, List.set_cons_succ]
    refine wpAnyH_take (i := 5) (v := ?vb5) rfl (by kernel_rfl) (by kernel_rfl) (by kernel_rfl) (fun _ _ _ h => h) (Or.inl ⟨by rfl, ?yb5⟩) (by assumption) ?rb5
    case yb5 =>
      intro W hSw
      have hc := hSw.out.l.cell 1 _ rfl
      go_simp
      all_goals with_reducible rfl
    try simp only [List.getElem_toArray, List.getElem_cons_zero, List.getElem_cons_succ, Act.put, List.setIfInBounds_toArray, List.set_cons_zero, List.set_cons_succ]
    refine wpAnyH_take (i := 6) (v := ?vb6) rfl (by kernel_rfl) (by kernel_rfl) (by kernel_rfl) (fun _ _ _ h => h) (Or.inl ⟨by rfl, ?yb6⟩) (by assumption) ?rb6
    case yb6 =>
      intro W hSw
      go_simp
      all_goals with_reducible rfl
    try simp only [List.getElem_toArray, List.getElem_cons_zero, List.getElem_cons_succ, Act.put, List.setIfInBounds_toArray, List.set_cons_zero, List.set_cons_succ]
    refine wpAnyH_take (i := 7) (v := ?vb7) rfl (by kernel_rfl) (by kernel_rfl) (by kernel_rfl) (fun _ _ _ h => h) (Or.inl ⟨by rfl, ?yb7⟩) (by assumption) ?rb7
    case yb7 =>
      intro W hSw
      go_simp
      all_goals with_reducible rfl
    try simp only [List.getElem_toArray, List.getElem_cons_zero, List.getElem_cons_succ, Act.put, List.setIfInBounds_toArray, List.set_cons_zero, List.set_cons_succ]
    refine wpAnyH_take (i := 8) (v := ?vb8) rfl (by kernel_rfl) (by kernel_rfl) (by kernel_rfl) (fun _ _ _ h => h) (Or.inl ⟨by rfl, ?yb8⟩) (by assumption) ?rb8
    case yb8 =>
      intro W hSw
      have hc := hSw.out.l.cell 2 _ rfl
      go_simp
      all_goals with_reducible rfl
    try simp only [List.getElem_toArray, List.getElem_cons_zero, List.getElem_cons_succ, Act.put, List.setIfInBounds_toArray, List.set_cons_zero, List.set_cons_succ]
    refine wpAnyH_take (i := 9) (v := ?vb9) rfl (by kernel_rfl) (by kernel_rfl) (by kernel_rfl) (fun _ _ _ h => h) (Or.inl ⟨by rfl, ?yb9⟩) (by assumption) ?rb9
    case yb9 =>
      intro W hSw
      go_simp
      all_goals with_reducible rfl
    try simp only [List.getElem_toArray, List.getElem_cons_zero, List.getElem_cons_succ, Act.put, List.setIfInBounds_toArray, List.set_cons_zero, List.set_cons_succ]
    refine wpAnyH_take (i := 10) (v := ?vb10) rfl (by kernel_rfl) (by kernel_rfl) (by kernel_rfl) (fun _ _ _ h => h) (Or.inl ⟨by rfl, ?yb10⟩) (by assumption) ?rb10
    case yb10 =>
      intro W hSw
      go_simp
      all_goals with_reducible rfl
    try simp only [List.getElem_toArray, List.getElem_cons_zero, List.getElem_cons_succ, Act.put, List.setIfInBounds_toArray, List.set_cons_zero, List.set_cons_succ]
    refine wpAnyH_take (i := 11) (v := ?vb11) rfl (by kernel_rfl) (by kernel_rfl) (by kernel_rfl) (fun _ _ _ h => h) (Or.inl ⟨by rfl, ?yb11⟩) (by assumption) ?rb11
    case yb11 =>
      intro W hSw
      have hc := hSw.out.l.cell 3 _ rfl
      go_simp
      all_goals with_reducible rfl
    try simp only [List.getElem_toArray, List.getElem_cons_zero, List.getElem_cons_succ, Act.put, List.setIfInBounds_toArray, List.set_cons_zero, List.set_cons_succ]
    refine wpAnyH_take (i := 12) (v := ?vb12) rfl (by kernel_rfl) (by kernel_rfl) (by kernel_rfl) (fun _ _ _ h => h) (Or.inl ⟨by rfl, ?yb12⟩) (by assumption) ?rb12
    case yb12 =>
      intro W hSw
      go_simp
      all_goals with_reducible rfl
    try simp only [List.getElem_toArray, List.getElem_cons_zero, List.getElem_cons_succ, Act.put, List.setIfInBounds_toArray, List.set_cons_zero, List.set_cons_succ]
    refine wpAnyH_take (i := 13) (v := ?vb13) rfl (by kernel_rfl) (by kernel_rfl) (by kernel_rfl) (fun _ _ _ h => h) (Or.inl ⟨by rfl, ?yb13⟩) (by assumption) ?rb13
    case yb13 =>
      intro W hSw
      go_simp
      all_goals with_reducible rfl
    try simp only [List.getElem_toArray, List.getElem_cons_zero, List.getElem_cons_succ, Act.put, List.setIfInBounds_toArray, List.set_cons_zero, List.set_cons_succ]
    refine wpAnyH_take (i := 14) (v := ?vb14) rfl (by kernel_rfl) (by kernel_rfl) (by kernel_rfl) (fun _ _ _ h => h) (Or.inl ⟨by rfl, ?yb14⟩) (by assumption) ?rb14
    case yb14 =>
      intro W hSw
      have hc := hSw.out.l.cell 4 _ rfl
      go_simp
      all_goals with_reducible rfl
    try simp only [List.getElem_toArray, List.getElem_cons_zero, List.getElem_cons_succ, Act.put, List.setIfInBounds_toArray, List.set_cons_zero, List.set_cons_succ]
    refine wpAnyH_take (i := 15) (v := ?vb15) rfl (by kernel_rfl) (by kernel_rfl) (by kernel_rfl) (fun _ _ _ h => h) (Or.inl ⟨by rfl, ?yb15⟩) (by assumption) ?rb15
    case yb15 =>
      intro W hSw
      go_simp
      all_goals with_reducible rfl
    try simp only [List.getElem_toArray, List.getElem_cons_zero, List.getElem_cons_succ, Act.put, List.setIfInBounds_toArray, List.set_cons_zero, List.set_cons_succ]
    refine wpAnyH_take (i := 16) (v := ?vb16) rfl (by kernel_rfl) (by kernel_rfl) (by kernel_rfl) (fun _ _ _ h => h) (Or.inl ⟨by rfl, ?yb16⟩) (by assumption) ?rb16
    case yb16 =>
      intro W hSw
      go_simp
      all_goals with_reducible rfl
    try simp only [List.getElem_toArray, List.getElem_cons_zero, List.getElem_cons_succ, Act.put, List.setIfInBounds_toArray, List.set_cons_zero, List.set_cons_succ]
    refine wpAnyH_take (i := 17) (v := ?vb17) rfl (by kernel_rfl) (by kernel_rfl) (by kernel_rfl) (fun _ _ _ h => h) (Or.inl ⟨by rfl, ?yb17⟩) (by assumption) ?rb17
    case yb17 =>
      intro W hSw
      have hc := hSw.out.l.cell 5 _ rfl
      go_simp
      all_goals with_reducible rfl
    try simp only [List.getElem_toArray, List.getElem_cons_zero, List.getElem_cons_succ, Act.put, List.setIfInBounds_toArray, List.set_cons_zero, List.set_cons_succ]
    refine wpAnyH_take (i := 18) (v := ?vb18) rfl (by kernel_rfl) (by kernel_rfl) (by kernel_rfl) (fun _ _ _ h => h) (Or.inl ⟨by rfl, ?yb18⟩) (by assumption) ?rb18
    case yb18 =>
      intro W hSw
      go_simp
      all_goals with_reducible rfl
    try simp only [List.getElem_toArray, List.getElem_cons_zero, List.getElem_cons_succ, Act.put, List.setIfInBounds_toArray, List.set_cons_zero, List.set_cons_succ]
    refine wpAnyH_take (i := 19) (v := ?vb19) rfl (by kernel_rfl) (by kernel_rfl) (by kernel_rfl) (fun _ _ _ h => h) (Or.inl ⟨by rfl, ?yb19⟩) (by assumption) ?rb19
    case yb19 =>
      intro W hSw
      go_simp
      all_goals with_reducible rfl
    try simp only [List.getElem_toArray, List.getElem_cons_zero, List.getElem_cons_succ, Act.put, List.setIfInBounds_toArray, List.set_cons_zero, List.set_cons_succ]
    refine wpAnyH_take (i := 20) (v := ?vb20) rfl (by kernel_rfl) (by kernel_rfl) (by kernel_rfl) (fun _ _ _ h => h) (Or.inl ⟨by rfl, ?yb20⟩) (by assumption) ?rb20
    case yb20 =>
      intro W hSw
      have hc := hSw.out.l.cell 6 _ rfl
      go_simp
      all_goals with_reducible rfl
    try simp only [List.getElem_toArray, List.getElem_cons_zero, List.getElem_cons_succ, Act.put, List.setIfInBounds_toArray, List.set_cons_zero, List.set_cons_succ]
    refine wpAnyH_take (i := 21) (v := ?vb21) rfl (by kernel_rfl) (by kernel_rfl) (by kernel_rfl) (fun _ _ _ h => h) (Or.inl ⟨by rfl, ?yb21⟩) (by assumption) ?rb21
    case yb21 =>
      intro W hSw
      go_simp
      all_goals with_reducible rfl
    try simp only [List.getElem_toArray, List.getElem_cons_zero, List.getElem_cons_succ, Act.put, List.setIfInBounds_toArray, List.set_cons_zero, List.set_cons_succ]
    refine wpAnyH_ready (rs := [22]) (by kernel_rfl) (by simp) ?_
    refine AllReadyH.cons rfl (fun K hK => ?_) AllReadyH.nil
    go_simp
    refine hK.out _ _ (Lib.hid (FourW.next (hHeld.out) (Upd.alloc [] _ _))) (fun hHeld2 => ?_)
    clear hK K hHeld
    have hHeld := hHeld2
    clear hHeld2
    try simp only [List.getElem_toArray, List.getElem_cons_zero, List.getElem_cons_succ, Act.put, List.setIfInBounds_toArray, List.set_cons_zero, List.set_cons_succ]
    refine wpAnyH_ready (rs := [23]) (by kernel_rfl) (by simp) ?_
    refine AllReadyH.cons rfl (fun K hK => ?_) AllReadyH.nil
    go_simp
    refine hK.out _ _ (Lib.hid (FourW.next (w := w) ⟨H3.out.1, H3.out.2⟩ ((Upd.drew [] W4).trans (Upd.alloc [] _ _)))) (fun hHeld2 => ?_)
    clear hK K hHeld
    refine wpAnyH_done (by kernel_rfl) ?_ _
    clear hHeld2
    have H5 := Lib.hid (show ThreeW w (W4.drew.alloc (.cells #[.int .i64 y.errors, .int .i64 y.window, .int .i64 y.dev, .int .i64 y.slow, .int .i64 y.share, .int .i64 y.base, .int .i64 y.top] 24)) A X W4.drew.heap.size a t y from ⟨H3.out.2.a.alloc _, H3.out.2.x.alloc _, BlockAt.new W4.drew 24 y.cells, H3.out.2.h.trans (((Upd.drew [] W4).trans (Upd.alloc [] _ _)).below H3.out.2.h.size (by simp))⟩)
    go_wp2_with fail
    go_meet
    exact ⟨_, rfl, H5⟩
  case rest =>
    obtain ⟨Y, rfl, H5⟩ := hcut
    clear H3
    have K1 := Lib.hid (fun (W : World) (h : Hid (ThreeW w W A X Y a t y)) => three_held (check_any a W) h)
    have K2 := Lib.hid (fun (W : World) (h : Hid (ThreeW w W A X Y a t y)) => three_held (refCheck_any a W) h)
    have K3 := Lib.hid (fun (W : World) (h : Hid (ThreeW w W A X Y a t y)) => three_held (check_any t W) h)
    have K4 := Lib.hid (fun (W : World) (h : Hid (ThreeW w W A X Y a t y)) => three_held (check_any y W) h)
    have K5 := Lib.hid (fun (W : World) (h : Hid (ThreeW w W A X Y a t y)) => three_held (refCheck_any y W) h)
    have K6 := Lib.hid (fun (W : World) (h : Hid (ThreeW w W A X Y a t y)) => three_held (lives_any W) h)
    rw [HOK.out.ck] at K3
    obtain ⟨E1, hE1⟩ : ∃ E, ckV a = E := ⟨_, rfl⟩
    obtain ⟨E2, hE2⟩ : ∃ E, ckV y = E := ⟨_, rfl⟩
    rw [hE1] at K1 K2
    rw [hE2] at K4 K5
    have LA := Lib.hid (fun (W : World) (h : Hid (ThreeW w W A X Y a t y)) => load_watch h.out.a)
    have LX := Lib.hid (fun (W : World) (h : Hid (ThreeW w W A X Y a t y)) => load_watch h.out.x)
    have LY := Lib.hid (fun (W : World) (h : Hid (ThreeW w W A X Y a t y)) => load_watch h.out.y)
    obtain ⟨va, hva⟩ : ∃ v, a.val = v := ⟨_, rfl⟩
    obtain ⟨vt, hvt⟩ : ∃ v, t.val = v := ⟨_, rfl⟩
    obtain ⟨vy, hvy⟩ : ∃ v, y.val = v := ⟨_, rfl⟩
    rw [hva] at K1 K2 LA
    rw [hvt] at K3 LX
    rw [hvy] at K4 K5 LY
    clear hE1 hE2 hva hvt hvy
    have hH0 := Lib.hid (H5.out.next (Upd.below (Upd.drew [] wc) (Nat.le_refl _) (by simp)))
    clear H5
    go_upto_region 5 with fail
    refine wp_region_held_drew (S := fun w' => Hid (ThreeW w w' A X Y a t y)) (by kernel_rfl) hH0 (fun hHeld => ?_)
    clear hH0
    refine wpAnyH_take (i := 0) (v := va) rfl (by kernel_rfl) (by kernel_rfl) (by kernel_rfl) (fun _ _ _ h => h) (Or.inl ⟨by rfl, ?yc0⟩) (by assumption) ?rc0
    case yc0 =>
      intro w hSw
      apply LA.out w hSw <;> rfl
    try simp only [List.getElem_toArray, List.getElem_cons_zero, List.getElem_cons_succ, Act.put, List.setIfInBounds_toArray, List.set_cons_zero, List.set_cons_succ]
    refine wpAnyH_take (i := 2) (v := va) rfl (by kernel_rfl) (by kernel_rfl) (by kernel_rfl) (fun _ _ _ h => h) (Or.inl ⟨by rfl, ?yc2⟩) (by assumption) ?rc2
    case yc2 =>
      intro w hSw
      apply LA.out w hSw <;> rfl
    try simp only [List.getElem_toArray, List.getElem_cons_zero, List.getElem_cons_succ, Act.put, List.setIfInBounds_toArray, List.set_cons_zero, List.set_cons_succ]
    refine wpAnyH_ready (rs := [1]) (by kernel_rfl) (by simp) ?_
    refine AllReadyH.cons rfl (fun K hK => ?_) AllReadyH.nil
    go_simp
    go_at_call 21
    refine (K1.out _ hHeld).mono ?_
    rintro e w' ⟨rfl, k⟩
    refine hK.out _ _ k (fun hHeld2 => ?_)
    clear hK K hHeld
    have hHeld := hHeld2
    clear hHeld2
    refine wpAnyH_ready (rs := [3]) (by kernel_rfl) (by simp) ?_
    refine AllReadyH.cons rfl (fun K hK => ?_) AllReadyH.nil
    go_simp
    go_at_call 22
    refine (K2.out _ hHeld).mono ?_
    rintro e w' ⟨rfl, k⟩
    refine hK.out _ _ k (fun hHeld2 => ?_)
    clear hK K hHeld
    have hHeld := hHeld2
    clear hHeld2
    refine wpAnyH_take (i := 4) (v := ?vc4) rfl (by kernel_rfl) (by kernel_rfl) (by kernel_rfl) (fun _ _ _ h => h) (Or.inl ⟨by rfl, ?yc4⟩) (by assumption) ?rc4
    case yc4 =>
      intro w hSw
      try dsimp only at hSw
      go_simp
      all_goals with_reducible rfl
    try simp only [List.getElem_toArray, List.getElem_cons_zero, List.getElem_cons_succ, Act.put, List.setIfInBounds_toArray, List.set_cons_zero, List.set_cons_succ]
    refine wpAnyH_take (i := 5) (v := ?vc5) rfl (by kernel_rfl) (by kernel_rfl) (by kernel_rfl) (fun _ _ _ h => h) (Or.inl ⟨by rfl, ?yc5⟩) (by assumption) ?rc5
    case yc5 =>
      intro w hSw
      try dsimp only at hSw
      go_simp
      all_goals with_reducible rfl
    try simp only [List.getElem_toArray, List.getElem_cons_zero, List.getElem_cons_succ, Act.put, List.setIfInBounds_toArray, List.set_cons_zero, List.set_cons_succ]
    refine wpAnyH_take (i := 6) (v := vt) rfl (by kernel_rfl) (by kernel_rfl) (by kernel_rfl) (fun _ _ _ h => h) (Or.inl ⟨by rfl, ?yc6⟩) (by assumption) ?rc6
    case yc6 =>
      intro w hSw
      apply LX.out w hSw <;> rfl
    try simp only [List.getElem_toArray, List.getElem_cons_zero, List.getElem_cons_succ, Act.put, List.setIfInBounds_toArray, List.set_cons_zero, List.set_cons_succ]
    refine wpAnyH_ready (rs := [7]) (by kernel_rfl) (by simp) ?_
    refine AllReadyH.cons rfl (fun K hK => ?_) AllReadyH.nil
    go_simp
    go_at_call 21
    refine (K3.out _ hHeld).mono ?_
    rintro e w' ⟨rfl, k⟩
    refine hK.out _ _ k (fun hHeld2 => ?_)
    clear hK K hHeld
    have hHeld := hHeld2
    clear hHeld2
    refine wpAnyH_take (i := 8) (v := ?vc8) rfl (by kernel_rfl) (by kernel_rfl) (by kernel_rfl) (fun _ _ _ h => h) (Or.inl ⟨by rfl, ?yc8⟩) (by assumption) ?rc8
    case yc8 =>
      intro w hSw
      try dsimp only at hSw
      go_simp
      all_goals with_reducible rfl
    try simp only [List.getElem_toArray, List.getElem_cons_zero, List.getElem_cons_succ, Act.put, List.setIfInBounds_toArray, List.set_cons_zero, List.set_cons_succ]
    refine wpAnyH_take (i := 9) (v := ?vc9) rfl (by kernel_rfl) (by kernel_rfl) (by kernel_rfl) (fun _ _ _ h => h) (Or.inl ⟨by rfl, ?yc9⟩) (by assumption) ?rc9
    case yc9 =>
      intro w hSw
      try dsimp only at hSw
      go_simp
      all_goals with_reducible rfl
    try simp only [List.getElem_toArray, List.getElem_cons_zero, List.getElem_cons_succ, Act.put, List.setIfInBounds_toArray, List.set_cons_zero, List.set_cons_succ]
    refine wpAnyH_take (i := 10) (v := ?vc10) rfl (by kernel_rfl) (by kernel_rfl) (by kernel_rfl) (fun _ _ _ h => h) (Or.inl ⟨by rfl, ?yc10⟩) (by assumption) ?rc10
    case yc10 =>
      intro w hSw
      try dsimp only at hSw
      go_simp
      all_goals with_reducible rfl
    try simp only [List.getElem_toArray, List.getElem_cons_zero, List.getElem_cons_succ, Act.put, List.setIfInBounds_toArray, List.set_cons_zero, List.set_cons_succ]
    refine wpAnyH_take (i := 11) (v := vy) rfl (by kernel_rfl) (by kernel_rfl) (by kernel_rfl) (fun _ _ _ h => h) (Or.inl ⟨by rfl, ?yc11⟩) (by assumption) ?rc11
    case yc11 =>
      intro w hSw
      apply LY.out w hSw <;> rfl
    try simp only [List.getElem_toArray, List.getElem_cons_zero, List.getElem_cons_succ, Act.put, List.setIfInBounds_toArray, List.set_cons_zero, List.set_cons_succ]
    refine wpAnyH_take (i := 13) (v := vy) rfl (by kernel_rfl) (by kernel_rfl) (by kernel_rfl) (fun _ _ _ h => h) (Or.inl ⟨by rfl, ?yc13⟩) (by assumption) ?rc13
    case yc13 =>
      intro w hSw
      apply LY.out w hSw <;> rfl
    try simp only [List.getElem_toArray, List.getElem_cons_zero, List.getElem_cons_succ, Act.put, List.setIfInBounds_toArray, List.set_cons_zero, List.set_cons_succ]
    refine wpAnyH_ready (rs := [12]) (by kernel_rfl) (by simp) ?_
    refine AllReadyH.cons rfl (fun K hK => ?_) AllReadyH.nil
    go_simp
    go_at_call 21
    refine (K4.out _ hHeld).mono ?_
    rintro e w' ⟨rfl, k⟩
    refine hK.out _ _ k (fun hHeld2 => ?_)
    clear hK K hHeld
    have hHeld := hHeld2
    clear hHeld2
    refine wpAnyH_ready (rs := [14]) (by kernel_rfl) (by simp) ?_
    refine AllReadyH.cons rfl (fun K hK => ?_) AllReadyH.nil
    go_simp
    go_at_call 22
    refine (K5.out _ hHeld).mono ?_
    rintro e w' ⟨rfl, k⟩
    refine hK.out _ _ k (fun hHeld2 => ?_)
    clear hK K hHeld
    have hHeld := hHeld2
    clear hHeld2
    refine wpAnyH_take (i := 15) (v := ?vc15) rfl (by kernel_rfl) (by kernel_rfl) (by kernel_rfl) (fun _ _ _ h => h) (Or.inl ⟨by rfl, ?yc15⟩) (by assumption) ?rc15
    case yc15 =>
      intro w hSw
      try dsimp only at hSw
      go_simp
      all_goals with_reducible rfl
    try simp only [List.getElem_toArray, List.getElem_cons_zero, List.getElem_cons_succ, Act.put, List.setIfInBounds_toArray, List.set_cons_zero, List.set_cons_succ]
    refine wpAnyH_take (i := 16) (v := ?vc16) rfl (by kernel_rfl) (by kernel_rfl) (by kernel_rfl) (fun _ _ _ h => h) (Or.inl ⟨by rfl, ?yc16⟩) (by assumption) ?rc16
    case yc16 =>
      intro w hSw
      try dsimp only at hSw
      go_simp
      all_goals with_reducible rfl
    try simp only [List.getElem_toArray, List.getElem_cons_zero, List.getElem_cons_succ, Act.put, List.setIfInBounds_toArray, List.set_cons_zero, List.set_cons_succ]
    refine wpAnyH_take (i := 17) (v := ?vc17) rfl (by kernel_rfl) (by kernel_rfl) (by kernel_rfl) (fun _ _ _ h => h) (Or.inl ⟨by rfl, ?yc17⟩) (by assumption) ?rc17
    case yc17 =>
      intro w hSw
      try dsimp only at hSw
      go_simp
      all_goals with_reducible rfl
    try simp only [List.getElem_toArray, List.getElem_cons_zero, List.getElem_cons_succ, Act.put, List.setIfInBounds_toArray, List.set_cons_zero, List.set_cons_succ]
    refine wpAnyH_ready (rs := [18]) (by kernel_rfl) (by simp) ?_
    refine AllReadyH.cons rfl (fun K hK => ?_) AllReadyH.nil
    go_simp
    go_at_call 16
    refine (K6.out _ hHeld).mono ?_
    rintro e w' ⟨rfl, k⟩
    refine hK.out _ _ k (fun hHeld2 => ?_)
    clear hK K hHeld
    have hHeld := hHeld2
    clear hHeld2
    refine wpAnyH_take (i := 19) (v := ?vc19) rfl (by kernel_rfl) (by kernel_rfl) (by kernel_rfl) (fun _ _ _ h => h) (Or.inl ⟨by rfl, ?yc19⟩) (by assumption) ?rc19
    case yc19 =>
      intro w hSw
      try dsimp only at hSw
      go_simp
      all_goals with_reducible rfl
    try simp only [List.getElem_toArray, List.getElem_cons_zero, List.getElem_cons_succ, Act.put, List.setIfInBounds_toArray, List.set_cons_zero, List.set_cons_succ]
    refine wpAnyH_take (i := 20) (v := ?vc20) rfl (by kernel_rfl) (by kernel_rfl) (by kernel_rfl) (fun _ _ _ h => h) (Or.inl ⟨by rfl, ?yc20⟩) (by assumption) ?rc20
    case yc20 =>
      intro w hSw
      try dsimp only at hSw
      go_simp
      all_goals with_reducible rfl
    try simp only [List.getElem_toArray, List.getElem_cons_zero, List.getElem_cons_succ, Act.put, List.setIfInBounds_toArray, List.set_cons_zero, List.set_cons_succ]
    refine wpAnyH_done (by kernel_rfl) ?_ _
    go_wp2
    go_ret
    exact ⟨rfl, hHeld.out.h⟩
end Go.Proofs.Ytfmgcnmikopgeaa
