/- Layer 14: Acts. -/
import Derived.Test.YtfmgcnmikopgeaaOutR
import Derived.Test.YtfmgcnmikopgeaaOutM
namespace Go.Proofs.Ytfmgcnmikopgeaa
open Go.RowKit
structure ActR where
  later : Int
  todo : Int
  id : Int
  well : Bool
  took : Int
  is : Option Addr
  il : Nat
  ic : Nat
structure ActR.Ok (a : ActR) : Prop where
  later : 0 ≤ a.later ∧ a.later ≤ 3
  todo : 0 ≤ a.todo ∧ a.todo ≤ 3
  id : 1 ≤ a.id ∧ a.id ≤ 5
  took : 1 ≤ a.took ∧ a.took ≤ 30
def ActR.cells (a : ActR) : List Value := [.int .i64 a.later, .int .i64 a.todo, .int .i64 a.id, .bool a.well, .int .i64 a.took, .slice a.is a.il a.ic]
def cellsA (l : List ActR) : List Value := l.flatMap ActR.cells
theorem cellsA_snoc (l : List ActR) (a : ActR) : cellsA (l ++ [a]) = cellsA l ++ a.cells := by simp [cellsA]
theorem cellsA_get (l : List ActR) : ∀ (k : Nat) (p : ActR), l[k]? = some p → ∀ (j : Nat) (u : Value), p.cells[j]? = some u → (cellsA l)[k * 6 + j]? = some u := by
  induction l with
  | nil => intro k a h; simp at h
  | cons x l ih =>
    intro k p h j u hu
    have e : cellsA (x :: l) = x.cells ++ cellsA l := by simp [cellsA]
    have hx : x.cells.length = 6 := rfl
    have hj : j < 6 := by
      obtain ⟨h1, -⟩ := List.getElem?_eq_some_iff.1 hu
      exact h1
    rw [e]
    match k, h with
    | 0, h =>
      simp at h; subst h
      rw [Nat.zero_mul, Nat.zero_add, List.getElem?_append_left (by omega)]
      exact hu
    | k + 1, h =>
      have := ih k p (by simpa using h) j u hu
      rw [List.getElem?_append_right (by omega), hx, show (k + 1) * 6 + j - 6 = k * 6 + j by omega]
      exact this
theorem Try.infoAct : (Try.prog.info? 32).map (fun i => (i.zero, i.size, i.bytes)) = some (some (.agg #[.int .i64 0, .int .i64 0, .int .i64 0, .bool false, .int .i64 0, .slice none 0 0]), 6, 64) := by kernel_rfl
def OwnActs (base : Nat) (w : World) (v : Value) (l : List ActR) : Prop := w.ownsRow base 32 6 v l.length (cellsA l)
def doOf (k : Nat) : Int := [0, 1, 0, 1, 0, 2, 2, 1].getD k 0
theorem doOf_ok (k : Nat) : 0 ≤ doOf k ∧ doOf k ≤ 2 := by
  rcases (show k = 0 ∨ k = 1 ∨ k = 2 ∨ k = 3 ∨ k = 4 ∨ k = 5 ∨ k = 6 ∨ k = 7 ∨ 8 ≤ k by omega) with rfl | rfl | rfl | rfl | rfl | rfl | rfl | rfl | h
  all_goals first
    | decide
    | (have : doOf k = 0 := (by unfold doOf; rw [List.getD, List.getElem?_eq_none (by simpa using h)]; rfl); omega)
theorem dos_cell (w : World) (k : Nat) (hk : k < 8) : (w.alloc (.cells #[.int .i64 0, .int .i64 1, .int .i64 0, .int .i64 1, .int .i64 0, .int .i64 2, .int .i64 2, .int .i64 1] 3)).cell? ⟨w.heap.size, k, none⟩ = some (.int .i64 (doOf k)) := by
  refine (BlockAt.new w 3 [.int .i64 0, .int .i64 1, .int .i64 0, .int .i64 1, .int .i64 0, .int .i64 2, .int .i64 2, .int .i64 1]).cell k _ ?_
  rcases (show k = 0 ∨ k = 1 ∨ k = 2 ∨ k = 3 ∨ k = 4 ∨ k = 5 ∨ k = 6 ∨ k = 7 by omega) with rfl | rfl | rfl | rfl | rfl | rfl | rfl | rfl <;> rfl
theorem ids_cell (w : World) (k : Nat) (hk : k < 4) (a b c : Addr) : ∃ s n c', (w.alloc (.cells #[.slice (some a) 3 3, .slice (some b) 2 2, .slice (some c) 5 5, .slice none 0 0] 22)).cell? ⟨w.heap.size, k, none⟩ = some (.slice s n c') := by
  rcases (show k = 0 ∨ k = 1 ∨ k = 2 ∨ k = 3 by omega) with rfl | rfl | rfl | rfl
  · exact ⟨_, _, _, (BlockAt.new w 22 [.slice (some a) 3 3, .slice (some b) 2 2, .slice (some c) 5 5, .slice none 0 0]).cell 0 _ rfl⟩
  · exact ⟨_, _, _, (BlockAt.new w 22 [.slice (some a) 3 3, .slice (some b) 2 2, .slice (some c) 5 5, .slice none 0 0]).cell 1 _ rfl⟩
  · exact ⟨_, _, _, (BlockAt.new w 22 [.slice (some a) 3 3, .slice (some b) 2 2, .slice (some c) 5 5, .slice none 0 0]).cell 2 _ rfl⟩
  · exact ⟨_, _, _, (BlockAt.new w 22 [.slice (some a) 3 3, .slice (some b) 2 2, .slice (some c) 5 5, .slice none 0 0]).cell 3 _ rfl⟩
set_option maxRecDepth 100000
set_option maxHeartbeats 4000000 in
theorem acts_any (v : Value) (zs : List Int) (w : World) (h : IntsIn w v zs) :
    Calls Try.prog 10 #[v] w fun e w' => ∃ v' l, e = .returned v' ∧ OwnActs w.heap.size w' v' l ∧ Below w.heap.size w w' ∧ l.length ≤ 40 ∧ ∀ a ∈ l, ActR.Ok a := by
  obtain ⟨a1, c1, rfl, hln, hr, hr1⟩ := h
  have HR1 := Lib.hid hr1
  have HR := Lib.hid hr
  have hll : (zs.length : Int) ≤ 9223372036854775807 := by omega
  have HI0 : Hid (OwnActs w.heap.size w (.slice none 0 0) [] ∧ Below w.heap.size w w ∧ ∀ a ∈ ([] : List ActR), ActR.Ok a) := Lib.hid ⟨World.ownsRow_nil _ _ _ _, Below.refl _ _, by simp⟩
  clear hr1 hr hln
  go_enter Try.func10, Try.ntmps10
  go_wp2_with fail
  go_loopw [3, 4, 5, 6] (fun v i _ _ wr => ∃ (q : Nat) (ao : Option Addr) (cap : Nat) (l : List ActR), q ≤ 40 ∧ q ≤ zs.length ∧ i = .int .i64 q ∧ v = .slice ao q cap ∧ l.length = q ∧ Hid (OwnActs w.heap.size wr v l ∧ Below w.heap.size w wr ∧ ∀ a ∈ l, ActR.Ok a)) (fun _ i _ _ _ => 40 - (intOf i).toNat)
  case atStart => exact ⟨0, none, 0, [], by omega, by omega, rfl, rfl, rfl, HI0⟩
  case round =>
    obtain ⟨q, ao, cap, l, hq40, hqz, rfl, rfl, hlq, HI⟩ := hrel
    clear HI0
    have HL := Lib.hid hlq
    clear hlq
    have HEND : Hid (∃ l', OwnActs w.heap.size wr (Value.slice ao q cap) l' ∧ Below w.heap.size w wr ∧ l'.length ≤ 40 ∧ ∀ a ∈ l', ActR.Ok a) := Lib.hid ⟨l, HI.out.1, HI.out.2.1, by rw [HL.out]; exact hq40, HI.out.2.2⟩
    by_cases hl1 : q < zs.length
    · by_cases hl2 : q < 40
      · obtain ⟨z, hz⟩ : ∃ z, zs[q]? = some z := ⟨zs[q], by simp [hl1]⟩
        have hzr := HR.out z (List.mem_of_getElem? hz)
        obtain ⟨ab, off, rfl, hc0⟩ : ∃ b off, a1 = some ⟨b, off, none⟩ ∧ w.cell? ⟨b, off + q, none⟩ = some (.int .i64 z) := by
          rcases HR1.out with h | ⟨b, off, rfl, hc⟩
          · subst h; simp at hz
          · exact ⟨b, off, rfl, by rw [hc q hl1, List.getD, hz]; rfl⟩
        have hcell : wr.cell? ⟨ab, off + q, none⟩ = some (.int .i64 z) := (Upd.ofBelow HI.out.2.1).cell hc0 (by simp)
        have CA := Lib.hid (fun w => around_any z 10000000 w hzr.1 hzr.2 (by omega))
        have v0 := around_nonneg z 10000000 (by omega)
        have v1 := around_lt z 10000000 (by omega)
        obtain ⟨v, hv⟩ : ∃ v : Nat, around z 10000000 = (v : Int) := ⟨(around z 10000000).toNat, by omega⟩
        rw [hv] at CA v0 v1
        have HJ := Lib.hid (And.intro hl1 hl2)
        have j0 : (0 : Int) ≤ q := by omega
        have hl1' : (q : Int) < zs.length := by omega
        have hl2' : (q : Int) < 40 := by omega
        obtain ⟨d, hd⟩ : ∃ d : Nat, (v : Int) / 4 % 8 = (d : Int) := ⟨v / 4 % 8, by omega⟩
        have d8 : d < 8 := by omega
        have d0 : (0 : Int) ≤ d := by omega
        have d8' : (d : Int) < 8 := by omega
        have hdc := dos_cell wr d d8
        have hdo := doOf_ok d
        obtain ⟨dv, hdv⟩ : ∃ x, doOf d = x := ⟨_, rfl⟩
        rw [hdv] at hdc hdo
        have HOK : Hid (∀ (x : Int) (s : Option Addr) (n c : Nat), 0 ≤ x ∧ x ≤ 3 → ActR.Ok (⟨(v : Int) % 4, x, 1 + (v : Int) / 32 % 5, decide (0 < (v : Int) / 160 % 3), 1 + (v : Int) / 480 % 30, s, n, c⟩ : ActR)) := Lib.hid fun x s n c hx => ⟨by dsimp only; omega, by dsimp only; omega, by dsimp only; omega, by dsimp only; omega⟩
        have ew1 := IntWalk.i64_in (1 + (v : Int) / 32 % 5) (by omega)
        have ew2 := IntWalk.i64_in (1 + (v : Int) / 480 % 30) (by omega)
        have HLT := Lib.hid (fun k hk => (HI.out.1.lt k hk).1)
        clear hz hc0 hzr hv hl1 hl2 HEND hdv
        go_wp2_with fail
        refine (CA.out _).mono ?_
        rintro e w' ⟨rfl, rfl⟩
        clear CA hcell
        go_upto_region 7 with fail
        have HW3 : Hid (∃ W A, W = (wr.alloc (.cells #[.int .i64 0, .int .i64 1, .int .i64 0, .int .i64 1, .int .i64 0, .int .i64 2, .int .i64 2, .int .i64 1] 3)).alloc (.cells #[.int .i64 ((v : Int) % 4), .int .i64 dv, .int .i64 (1 + (v : Int) / 32 % 5), .bool (decide (0 < (v : Int) / 160 % 3)), .int .i64 (1 + (v : Int) / 480 % 30), .slice none 0 0] 32) ∧ A = wr.heap.size + 1 ∧ BlockAt W A 32 [.int .i64 ((v : Int) % 4), .int .i64 dv, .int .i64 (1 + (v : Int) / 32 % 5), .bool (decide (0 < (v : Int) / 160 % 3)), .int .i64 (1 + (v : Int) / 480 % 30), .slice none 0 0] ∧ w.heap.size ≤ A ∧ W.ownsRow w.heap.size 32 6 (.slice ao q cap) q (cellsA l) ∧ Below w.heap.size w W ∧ ∀ k, (Value.slice ao q cap).ownBlock = some k → k ≠ A) := Lib.hid (by
          have h1 := HI.out.1
          unfold OwnActs at h1
          rw [HL.out] at h1
          have h2 := HI.out.2.1.size
          refine ⟨_, _, rfl, rfl, by simpa using BlockAt.new (wr.alloc (.cells #[.int .i64 0, .int .i64 1, .int .i64 0, .int .i64 1, .int .i64 0, .int .i64 2, .int .i64 2, .int .i64 1] 3)) 32 [.int .i64 ((v : Int) % 4), .int .i64 dv, .int .i64 (1 + (v : Int) / 32 % 5), .bool (decide (0 < (v : Int) / 160 % 3)), .int .i64 (1 + (v : Int) / 480 % 30), .slice none 0 0], by omega, (h1.alloc _).alloc _, (HI.out.2.1.alloc h2 _).alloc (by simp; omega) _, fun k hk => ?_⟩
          have := (h1.lt k hk).2
          omega)
        obtain ⟨W3, A, hW3, hA, ha, hla, hown, hbel, hne⟩ := HW3.out
        rw [← hA]
        rw [← hW3]
        have HA := Lib.hid (And.intro ha (And.intro hla (And.intro hown (And.intro hbel hne))))
        obtain ⟨LT, hLT⟩ : ∃ x, (v : Int) % 4 = x := ⟨_, rfl⟩
        obtain ⟨ID, hID⟩ : ∃ x, 1 + (v : Int) / 32 % 5 = x := ⟨_, rfl⟩
        obtain ⟨TK, hTK⟩ : ∃ x, 1 + (v : Int) / 480 % 30 = x := ⟨_, rfl⟩
        obtain ⟨WB, hWB⟩ : ∃ x, decide (0 < (v : Int) / 160 % 3) = x := ⟨_, rfl⟩
        rw [hLT, hID, hTK, hWB] at HA HOK
        rw [hLT, hID, hTK, hWB]
        clear HW3 hW3 hA ha hla hown hbel hne hLT hID hTK hWB hdc hd d8 d0 d8' ew1 ew2
        by_cases h13 : (v : Int) / 4 % 97 = 13
        · have hb13 : ((v : Int) / 4 % 97 == 13) = true := by simpa using h13
          obtain ⟨f, hf⟩ : ∃ f : Nat, (v : Int) / 500 % 4 = (f : Int) := ⟨v / 500 % 4, by omega⟩
          have f4 : f < 4 := by omega
          have f0 : (0 : Int) ≤ f := by omega
          have f4' : (f : Int) < 4 := by omega
          obtain ⟨is, il, ic, hic⟩ := ids_cell ((((W3.setCell ⟨A, 1, none⟩ (.int .i64 3)).alloc (.cells #[.int .i64 1, .int .i64 2, .int .i64 3] 3)).alloc (.cells #[.int .i64 5, .int .i64 1] 3)).alloc (.cells #[.int .i64 1, .int .i64 2, .int .i64 3, .int .i64 4, .int .i64 5] 3)) f f4 ⟨W3.heap.size, 0, none⟩ ⟨W3.heap.size + 1, 0, none⟩ ⟨W3.heap.size + 1 + 1, 0, none⟩
          rw [show ((((W3.setCell ⟨A, 1, none⟩ (.int .i64 3)).alloc (.cells #[.int .i64 1, .int .i64 2, .int .i64 3] 3)).alloc (.cells #[.int .i64 5, .int .i64 1] 3)).alloc (.cells #[.int .i64 1, .int .i64 2, .int .i64 3, .int .i64 4, .int .i64 5] 3)).heap.size = W3.heap.size + 1 + 1 + 1 by simp] at hic
          have d1 := HA.out.1.cell 1 _ rfl
          have e1 := HA.out.1.free 1
          have hal := HA.out.1.lt
          have HA5 := ((((HA.out.1.set 1 (.int .i64 3)).alloc (.cells #[.int .i64 1, .int .i64 2, .int .i64 3] 3)).alloc (.cells #[.int .i64 5, .int .i64 1] 3)).alloc (.cells #[.int .i64 1, .int .i64 2, .int .i64 3, .int .i64 4, .int .i64 5] 3)).alloc (.cells #[.slice (some ⟨W3.heap.size, 0, none⟩) 3 3, .slice (some ⟨W3.heap.size + 1, 0, none⟩) 2 2, .slice (some ⟨W3.heap.size + 1 + 1, 0, none⟩) 5 5, .slice none 0 0] 22)
          have d5 := HA5.cell 5 _ rfl
          have e5 := HA5.free 5
          have n0 : ¬ A = W3.heap.size := by omega
          have n1 : ¬ A = W3.heap.size + 1 := by omega
          have n2 : ¬ A = W3.heap.size + 1 + 1 := by omega
          have n3 : ¬ A = W3.heap.size + 1 + 1 + 1 := by omega
          clear h13 f4 HA5 n1 n2 n3
          go_upto_region 10 with fail
          have HW9 : Hid (∃ W, W = (((((W3.setCell ⟨A, 1, none⟩ (.int .i64 3)).alloc (.cells #[.int .i64 1, .int .i64 2, .int .i64 3] 3)).alloc (.cells #[.int .i64 5, .int .i64 1] 3)).alloc (.cells #[.int .i64 1, .int .i64 2, .int .i64 3, .int .i64 4, .int .i64 5] 3)).alloc (.cells #[.slice (some ⟨W3.heap.size, 0, none⟩) 3 3, .slice (some ⟨W3.heap.size + 1, 0, none⟩) 2 2, .slice (some ⟨W3.heap.size + 1 + 1, 0, none⟩) 5 5, .slice none 0 0] 22)).setCell ⟨A, 5, none⟩ (.slice is il ic) ∧ BlockAt W A 32 [.int .i64 LT, .int .i64 3, .int .i64 ID, .bool WB, .int .i64 TK, .slice is il ic] ∧ W.ownsRow w.heap.size 32 6 (.slice ao q cap) q (cellsA l) ∧ Below w.heap.size w W) := Lib.hid (by
            have hu : Upd [A] W3 ((((((W3.setCell ⟨A, 1, none⟩ (.int .i64 3)).alloc (.cells #[.int .i64 1, .int .i64 2, .int .i64 3] 3)).alloc (.cells #[.int .i64 5, .int .i64 1] 3)).alloc (.cells #[.int .i64 1, .int .i64 2, .int .i64 3, .int .i64 4, .int .i64 5] 3)).alloc (.cells #[.slice (some ⟨W3.heap.size, 0, none⟩) 3 3, .slice (some ⟨W3.heap.size + 1, 0, none⟩) 2 2, .slice (some ⟨W3.heap.size + 1 + 1, 0, none⟩) 5 5, .slice none 0 0] 22)).setCell ⟨A, 5, none⟩ (.slice is il ic)) := (((((Upd.setCell' _ _ _ (by simp)).trans (Upd.alloc _ _ _)).trans (Upd.alloc _ _ _)).trans (Upd.alloc _ _ _)).trans (Upd.alloc _ _ _)).trans (Upd.setCell' _ _ _ (by simp))
            refine ⟨_, rfl, (((((HA.out.1.set 1 (.int .i64 3)).alloc _).alloc _).alloc _).alloc _).set 5 (.slice is il ic), hu.owns HA.out.2.2.1 (fun k hk => by simp; exact HA.out.2.2.2.2 k hk), HA.out.2.2.2.1.trans (hu.below HA.out.2.2.2.1.size (by simp; exact HA.out.2.1))⟩)
          obtain ⟨W9, hW9, ha9, hown9, hbel9⟩ := HW9.out
          rw [← hW9]
          have g0 := ha9.cell 0 _ rfl
          have g1 := ha9.cell 1 _ rfl
          have g2 := ha9.cell 2 _ rfl
          have g3 := ha9.cell 3 _ rfl
          have g4 := ha9.cell 4 _ rfl
          have g5 := ha9.cell 5 _ rfl
          have HOWN := Lib.hid hown9
          have HB9 := Lib.hid hbel9
          clear HW9 hW9 ha9 hown9 hbel9 hic d1 d5 e1 e5 n0 hb13 hf f0 f4' HA
          go_wp2_with (at_builtin; go_loud (refine wpList_append_put W9 rfl (.tmp 58) (.tmp 60) 29 rfl w.heap.size 32 6 64 Try.infoAct (by kernel_rfl) rfl (by decide) (.slice ao q cap) q (cellsA l) rfl HOWN.out (ActR.cells (⟨LT, 3, ID, WB, TK, is, il, ic⟩ : ActR)) (by simp [Act.eval]) rfl rfl (by unfold maxLen; omega) (by omega) HB9.out.size ?_))
          intro gg cap' w4 hown hu hgg
          have HI4 : Hid (OwnActs w.heap.size w4 (.slice (some ⟨gg, 0, none⟩) (q + 1) cap') (l ++ [(⟨LT, 3, ID, WB, TK, is, il, ic⟩ : ActR)]) ∧ Below w.heap.size w w4 ∧ ∀ a ∈ l ++ [(⟨LT, 3, ID, WB, TK, is, il, ic⟩ : ActR)], ActR.Ok a) := Lib.hid ⟨by
            unfold OwnActs
            rw [cellsA_snoc, List.length_append, HL.out]
            exact hown, HB9.out.trans (hu.below HB9.out.size (fun k hk => by simp at hk; exact HLT.out k hk)), fun a ha => by
            rcases List.mem_append.1 ha with ha | ha
            · exact HI.out.2.2 a ha
            · simp at ha; subst ha; exact HOK.out _ _ _ _ (by omega)⟩
          have HL4 : Hid ((l ++ [(⟨LT, 3, ID, WB, TK, is, il, ic⟩ : ActR)]).length = q + 1) := Lib.hid (by simp [HL.out])
          clear hown hu hgg HI HOWN HB9 HOK
          go_wp2_with fail
          go_roundw
          case rel => exact ⟨q + 1, some ⟨gg, 0, none⟩, cap', _, by have := HJ.out; omega, by have := HJ.out; omega, by go_num, rfl, HL4.out, HI4⟩
          case measure => have := HJ.out; simp [intOf] <;> omega
        · have hb13 : ((v : Int) / 4 % 97 == 13) = false := by simpa using h13
          have d0 := HA.out.1.cell 0 _ rfl
          have d1 := HA.out.1.cell 1 _ rfl
          have d2 := HA.out.1.cell 2 _ rfl
          have d3 := HA.out.1.cell 3 _ rfl
          have d4 := HA.out.1.cell 4 _ rfl
          have d5 := HA.out.1.cell 5 _ rfl
          have HOWN := Lib.hid HA.out.2.2.1
          have HB9 := Lib.hid HA.out.2.2.2.1
          clear h13 HA
          go_wp2_with (at_builtin; go_loud (refine wpList_append_put W3 rfl (.tmp 58) (.tmp 60) 29 rfl w.heap.size 32 6 64 Try.infoAct (by kernel_rfl) rfl (by decide) (.slice ao q cap) q (cellsA l) rfl HOWN.out (ActR.cells (⟨LT, dv, ID, WB, TK, none, 0, 0⟩ : ActR)) (by simp [Act.eval]) rfl rfl (by unfold maxLen; omega) (by omega) HB9.out.size ?_))
          intro gg cap' w4 hown hu hgg
          have HI4 : Hid (OwnActs w.heap.size w4 (.slice (some ⟨gg, 0, none⟩) (q + 1) cap') (l ++ [(⟨LT, dv, ID, WB, TK, none, 0, 0⟩ : ActR)]) ∧ Below w.heap.size w w4 ∧ ∀ a ∈ l ++ [(⟨LT, dv, ID, WB, TK, none, 0, 0⟩ : ActR)], ActR.Ok a) := Lib.hid ⟨by
            unfold OwnActs
            rw [cellsA_snoc, List.length_append, HL.out]
            exact hown, HB9.out.trans (hu.below HB9.out.size (fun k hk => by simp at hk; exact HLT.out k hk)), fun a ha => by
            rcases List.mem_append.1 ha with ha | ha
            · exact HI.out.2.2 a ha
            · simp at ha; subst ha; exact HOK.out _ _ _ _ (by omega)⟩
          have HL4 : Hid ((l ++ [(⟨LT, dv, ID, WB, TK, none, 0, 0⟩ : ActR)]).length = q + 1) := Lib.hid (by simp [HL.out])
          clear hown hu hgg HI HOWN HB9 HOK
          go_wp2_with fail
          go_roundw
          case rel => exact ⟨q + 1, some ⟨gg, 0, none⟩, cap', _, by have := HJ.out; omega, by have := HJ.out; omega, by go_num, rfl, HL4.out, HI4⟩
          case measure => have := HJ.out; simp [intOf] <;> omega
      · obtain rfl : q = 40 := by omega
        have hl1' : ((40 : Nat) : Int) < zs.length := by omega
        obtain ⟨l', h1⟩ := HEND.out
        go_wp2_with fail
        go_ret
        exact ⟨_, l', rfl, h1⟩
    · obtain rfl : q = zs.length := by omega
      obtain ⟨l', h1⟩ := HEND.out
      go_wp2_with fail
      go_ret
      exact ⟨_, l', rfl, h1⟩
end Go.Proofs.Ytfmgcnmikopgeaa
