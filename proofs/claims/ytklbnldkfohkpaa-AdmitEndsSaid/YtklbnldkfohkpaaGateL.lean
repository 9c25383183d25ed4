/- Layer 23: Acts. -/
import Derived.Test.YtklbnldkfohkpaaGateK
namespace Go.Proofs.Ytklbnldkfohkpaa
open Go.RowKit
structure AcT where
  later : Int
  todo : Int
  back : Int
  prio : Int
  flow : Int
  took : Int
  well : Bool
structure AcT.Ok (a : AcT) : Prop where
  later : 0 ≤ a.later ∧ a.later < 4
  todo : a.todo = 0 ∨ a.todo = 1 ∨ a.todo = 2
  back : 0 ≤ a.back ∧ a.back < 8
  prio : ∃ p : Nat, a.prio = (p : Int) ∧ p < 4
  took : 1 ≤ a.took ∧ a.took ≤ 20
def AcT.cells (a : AcT) : List Value := [.int .i64 a.later, .int .i64 a.todo, .int .i64 a.back, .int .i64 a.prio, .int .i64 a.flow, .int .i64 a.took, .bool a.well]
def cellsA (l : List AcT) : List Value := l.flatMap AcT.cells
theorem cellsA_snoc (l : List AcT) (a : AcT) : cellsA (l ++ [a]) = cellsA l ++ a.cells := by simp [cellsA]
theorem Try.infoAct : (Try.prog.info? 49).map (fun i => (i.zero, i.size, i.bytes)) = some (some (.agg #[.int .i64 0, .int .i64 0, .int .i64 0, .int .i64 0, .int .i64 0, .int .i64 0, .bool false]), 7, 56) := by kernel_rfl
def OwnActs (base : Nat) (w : World) (v : Value) (l : List AcT) : Prop := w.ownsRow base 49 7 v l.length (cellsA l)
def doOf (k : Nat) : Int := [0, 0, 0, 1, 1, 0, 2, 1].getD k 0
theorem doOf_ok (k : Nat) : doOf k = 0 ∨ doOf k = 1 ∨ doOf k = 2 := by
  rcases (show k = 0 ∨ k = 1 ∨ k = 2 ∨ k = 3 ∨ k = 4 ∨ k = 5 ∨ k = 6 ∨ k = 7 ∨ 8 ≤ k by omega) with rfl | rfl | rfl | rfl | rfl | rfl | rfl | rfl | h
  all_goals first
    | decide
    | (left; unfold doOf; rw [List.getD, List.getElem?_eq_none (by simpa using h)]; rfl)
theorem dos_cell (w : World) (k : Nat) (hk : k < 8) : (w.alloc (.cells #[.int .i64 0, .int .i64 0, .int .i64 0, .int .i64 1, .int .i64 1, .int .i64 0, .int .i64 2, .int .i64 1] 3)).cell? ⟨w.heap.size, k, none⟩ = some (.int .i64 (doOf k)) := by
  refine (BlockAt.new w 3 [.int .i64 0, .int .i64 0, .int .i64 0, .int .i64 1, .int .i64 1, .int .i64 0, .int .i64 2, .int .i64 1]).cell k _ ?_
  rcases (show k = 0 ∨ k = 1 ∨ k = 2 ∨ k = 3 ∨ k = 4 ∨ k = 5 ∨ k = 6 ∨ k = 7 by omega) with rfl | rfl | rfl | rfl | rfl | rfl | rfl | rfl <;> rfl
set_option maxRecDepth 100000
set_option maxHeartbeats 2000000 in
theorem acts_any (v : Value) (zs : List Int) (w : World) (h : IntsIn w v zs) :
    Calls Try.prog 20 #[v] w fun e w' => ∃ v' l, e = .returned v' ∧ OwnActs w.heap.size w' v' l ∧ Below w.heap.size w w' ∧ l.length ≤ 40 ∧ ∀ a ∈ l, AcT.Ok a := by
  obtain ⟨a1, c1, rfl, hln, hr, hr1⟩ := h
  have HR1 := Lib.hid hr1
  have HR := Lib.hid hr
  have hll : (zs.length : Int) ≤ 9223372036854775807 := by omega
  have HI0 : Hid (OwnActs w.heap.size w (.slice none 0 0) [] ∧ Below w.heap.size w w ∧ ∀ a ∈ ([] : List AcT), AcT.Ok a) := Lib.hid ⟨World.ownsRow_nil _ _ _ _, Below.refl _ _, by simp⟩
  clear hr1 hr hln
  go_enter Try.func20, Try.ntmps20
  go_wp2_with fail
  go_loopw [3, 4] (fun v i wr => ∃ (q : Nat) (ao : Option Addr) (cap : Nat) (l : List AcT), q ≤ 40 ∧ q ≤ zs.length ∧ i = .int .i64 q ∧ v = .slice ao q cap ∧ l.length = q ∧ Hid (OwnActs w.heap.size wr v l ∧ Below w.heap.size w wr ∧ ∀ a ∈ l, AcT.Ok a)) (fun _ i _ => 40 - (intOf i).toNat)
  case atStart => exact ⟨0, none, 0, [], by omega, by omega, rfl, rfl, rfl, HI0⟩
  case round =>
    obtain ⟨q, ao, cap, l, hq40, hqz, rfl, rfl, hlq, HI⟩ := hrel
    clear HI0
    have HL := Lib.hid hlq
    clear hlq
    have HEND : Hid (∃ l', OwnActs w.heap.size wr (Value.slice ao q cap) l' ∧ Below w.heap.size w wr ∧ l'.length ≤ 40 ∧ ∀ a ∈ l', AcT.Ok a) := Lib.hid ⟨l, HI.out.1, HI.out.2.1, by rw [HL.out]; exact hq40, HI.out.2.2⟩
    by_cases hl1 : q < zs.length
    · by_cases hl2 : q < 40
      · obtain ⟨z, hz⟩ : ∃ z, zs[q]? = some z := ⟨zs[q], by simp [hl1]⟩
        have hzr := HR.out z (List.mem_of_getElem? hz)
        obtain ⟨ab, off, rfl, hc0⟩ : ∃ b off, a1 = some ⟨b, off, none⟩ ∧ w.cell? ⟨b, off + q, none⟩ = some (.int .i64 z) := by
          rcases HR1.out with h | ⟨b, off, rfl, hc⟩
          · subst h; simp at hz
          · exact ⟨b, off, rfl, by rw [hc q hl1, List.getD, hz]; rfl⟩
        have hcell : wr.cell? ⟨ab, off + q, none⟩ = some (.int .i64 z) := (Upd.ofBelow HI.out.2.1).cell hc0 (by simp)
        have CA := Lib.hid (fun w => around_any z 1000000 w hzr.1 hzr.2 (by omega))
        have v0 := around_nonneg z 1000000 (by omega)
        have v1 := around_lt z 1000000 (by omega)
        obtain ⟨v, hv⟩ : ∃ v : Nat, around z 1000000 = (v : Int) := ⟨(around z 1000000).toNat, by omega⟩
        rw [hv] at CA v0 v1
        have HJ := Lib.hid (And.intro hl1 hl2)
        have j0 : (0 : Int) ≤ q := by omega
        have hl1' : (q : Int) < zs.length := by omega
        have hl2' : (q : Int) < 40 := by omega
        obtain ⟨d, hd⟩ : ∃ d : Nat, (v : Int) / 4 % 8 = (d : Int) := ⟨v / 4 % 8, by omega⟩
        have d8 : d < 8 := by omega
        have d0 : (0 : Int) ≤ d := by omega
        have d8' : (d : Int) < 8 := by omega
        have hdc := dos_cell wr d d8
        have HOK : Hid (AcT.Ok ⟨(v : Int) % 4, doOf d, (v : Int) / 32 % 8, (v : Int) / 256 % 4, (v : Int) / 1024 % 3, 1 + (v : Int) / 32 % 20, decide (0 < (v : Int) / 3072 % 4)⟩) := Lib.hid
          ⟨by dsimp only; omega, doOf_ok d, by dsimp only; omega, ⟨v / 256 % 4, by dsimp only; omega, by omega⟩, by dsimp only; omega⟩
        have ew := IntWalk.i64_in (1 + (v : Int) / 32 % 20) (by omega)
        clear hz hc0 hzr hv hl1 hl2 HEND
        go_wp2_with fail
        refine (CA.out _).mono ?_
        rintro e w' ⟨rfl, rfl⟩
        clear CA
        have HOWN : Hid ((wr.alloc (.cells #[.int .i64 0, .int .i64 0, .int .i64 0, .int .i64 1, .int .i64 1, .int .i64 0, .int .i64 2, .int .i64 1] 3)).ownsRow w.heap.size 49 7 (.slice ao q cap) q (cellsA l)) := Lib.hid (by
          have := HI.out.1
          unfold OwnActs at this
          rw [HL.out] at this
          exact this.alloc _)
        have HB : Hid (Below w.heap.size w (wr.alloc (.cells #[.int .i64 0, .int .i64 0, .int .i64 0, .int .i64 1, .int .i64 1, .int .i64 0, .int .i64 2, .int .i64 1] 3))) := Lib.hid (HI.out.2.1.alloc HI.out.2.1.size _)
        have HLT := Lib.hid (fun k hk => (HI.out.1.lt k hk).1)
        go_wp2_with (at_builtin; go_loud (refine wpList_append_put _ rfl (.tmp 21) (.tmp 48) 46 rfl w.heap.size 49 7 56 Try.infoAct (by kernel_rfl) rfl (by decide) (.slice ao q cap) q (cellsA l) rfl HOWN.out (AcT.cells ⟨(v : Int) % 4, doOf d, (v : Int) / 32 % 8, (v : Int) / 256 % 4, (v : Int) / 1024 % 3, 1 + (v : Int) / 32 % 20, decide (0 < (v : Int) / 3072 % 4)⟩) (by simp [Act.eval]) rfl rfl (by unfold maxLen; omega) (by omega) HB.out.size ?_))
        intro gg cap' w4 hown hu hgg
        have HI4 : Hid (OwnActs w.heap.size w4 (.slice (some ⟨gg, 0, none⟩) (q + 1) cap') (l ++ [⟨(v : Int) % 4, doOf d, (v : Int) / 32 % 8, (v : Int) / 256 % 4, (v : Int) / 1024 % 3, 1 + (v : Int) / 32 % 20, decide (0 < (v : Int) / 3072 % 4)⟩]) ∧ Below w.heap.size w w4 ∧ ∀ a ∈ l ++ [⟨(v : Int) % 4, doOf d, (v : Int) / 32 % 8, (v : Int) / 256 % 4, (v : Int) / 1024 % 3, 1 + (v : Int) / 32 % 20, decide (0 < (v : Int) / 3072 % 4)⟩], AcT.Ok a) := Lib.hid ⟨by
          unfold OwnActs
          rw [cellsA_snoc, List.length_append, HL.out]
          exact hown, HB.out.trans (hu.below HB.out.size (fun k hk => by simp at hk; exact HLT.out k hk)), fun a ha => by
          rcases List.mem_append.1 ha with ha | ha
          · exact HI.out.2.2 a ha
          · simp at ha; subst ha; exact HOK.out⟩
        have HL4 : Hid ((l ++ [(⟨(v : Int) % 4, doOf d, (v : Int) / 32 % 8, (v : Int) / 256 % 4, (v : Int) / 1024 % 3, 1 + (v : Int) / 32 % 20, decide (0 < (v : Int) / 3072 % 4)⟩ : AcT)]).length = q + 1) := Lib.hid (by simp [HL.out])
        clear hown hu hgg HI HOWN HB HOK hcell hdc
        go_wp2_with fail
        go_roundw
        case rel => exact ⟨q + 1, some ⟨gg, 0, none⟩, cap', _, by have := HJ.out; omega, by have := HJ.out; omega, by go_num, rfl, HL4.out, HI4⟩
        case measure => have := HJ.out; simp [intOf] <;> omega
      · obtain rfl : q = 40 := by omega
        have hl1' : ((40 : Nat) : Int) < zs.length := by omega
        obtain ⟨l', h1⟩ := HEND.out
        go_wp2_with fail
        go_ret
        exact ⟨_, l', rfl, h1⟩
    · obtain rfl : q = zs.length := by omega
      obtain ⟨l', h1⟩ := HEND.out
      go_wp2_with fail
      go_ret
      exact ⟨_, l', rfl, h1⟩
end Go.Proofs.Ytklbnldkfohkpaa
