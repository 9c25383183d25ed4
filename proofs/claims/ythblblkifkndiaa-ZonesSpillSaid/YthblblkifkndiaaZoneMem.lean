/- Layer 11: endpoints in memory; the set of those that are well. -/
import Derived.Test.YthblblkifkndiaaZoneRef
import Derived.Test.YthblblkifkndiaaHas
import Derived.Test.YthblblkifkndiaaSet
import Derived.Test.YthblblkifkndiaaDown
import Derived.StillTailTactics
import Derived.Deep.CutBlock
import Derived.Deep.DeepCutAuto
namespace Go.Proofs.Ythblblkifkndiaa
open Go.RowKit
def En.cells (e : En) : List Value := [.int .i64 e.id, .int .i64 e.svc, .int .i64 e.zone]
def En.val (e : En) : Value := .agg #[.int .i64 e.id, .int .i64 e.svc, .int .i64 e.zone]
def cellsE (l : List En) : List Value := l.flatMap En.cells
theorem cellsE_snoc (l : List En) (e : En) : cellsE (l ++ [e]) = cellsE l ++ e.cells := by simp [cellsE]
theorem cellsE_length (l : List En) : (cellsE l).length = l.length * 3 := by
  induction l with
  | nil => rfl
  | cons a l ih => show (a.cells ++ cellsE l).length = _; rw [List.length_append, ih]; simp [En.cells]; omega
theorem cellsE_get : ∀ (l : List En) (k : Nat) (e : En), l[k]? = some e → ∀ (c : Nat) (u : Value), e.cells[c]? = some u → (cellsE l)[k * 3 + c]? = some u
  | [], k, e, h, _, _, _ => by simp at h
  | b :: l, 0, e, h, c, u, hu => by
    simp at h; subst h
    have hc : c < b.cells.length := (List.getElem?_eq_some_iff.1 hu).1
    show (b.cells ++ cellsE l)[0 * 3 + c]? = some u
    rw [Nat.zero_mul, Nat.zero_add, List.getElem?_append_left hc]; exact hu
  | b :: l, k + 1, e, h, c, u, hu => by
    have := cellsE_get l k e (by simpa using h) c u hu
    show (b.cells ++ cellsE l)[(k + 1) * 3 + c]? = some u
    rw [List.getElem?_append_right (by simp [En.cells]; omega)]
    have e1 : (k + 1) * 3 + c - b.cells.length = k * 3 + c := by simp [En.cells]; omega
    rw [e1]; exact this
/-- A slice of endpoints that is read. -/
def EnsIn (w : World) (v : Value) (l : List En) : Prop := ∃ (a : Option Addr) (cap : Nat), v = .slice a l.length cap ∧ (l.length : Int) ≤ 1000 ∧
  (l = [] ∨ ∃ b off, a = some ⟨b, off, none⟩ ∧ b < w.heap.size ∧ ∀ (j : Nat) (e : En), l[j]? = some e → ∀ (c : Nat) (u : Value), e.cells[c]? = some u → w.cell? ⟨b, off + j * 3 + c, none⟩ = some u)
theorem EnsIn.keep {S : List Nat} {w w' : World} {v : Value} {l : List En} (h : EnsIn w v l) (u : Upd S w w') (hs : ∀ k ∈ S, w.heap.size ≤ k) : EnsIn w' v l := by
  obtain ⟨a, cap, hv, hl, h⟩ := h
  refine ⟨a, cap, hv, hl, h.imp id ?_⟩
  rintro ⟨b, off, ha, hb, hc⟩
  refine ⟨b, off, ha, Nat.lt_of_lt_of_le hb u.size, fun j e he c x hx => u.cell (hc j e he c x hx) (fun hh => ?_)⟩
  have := hs b hh
  omega
theorem EnsIn.below {w w' : World} {v : Value} {l : List En} (h : EnsIn w v l) (hb : Below w.heap.size w w') : EnsIn w' v l := h.keep (Upd.ofBelow hb) (by simp)
def OwnEns (base : Nat) (w : World) (v : Value) (l : List En) : Prop := w.ownsRow base 35 3 v l.length (cellsE l)
theorem OwnEns.isIn {base : Nat} {w : World} {v : Value} {l : List En} (h : OwnEns base w v l) (hl : (l.length : Int) ≤ 1000) : EnsIn w v l := by
  unfold OwnEns at h
  have hlt := h.lt
  have hc := fun g hg => h.cells (g := g) hg
  rcases h.2 with ⟨hv, hn⟩ | ⟨g, cap, cur, rfl, _, hgg, hlc, hcm, _⟩
  · exact ⟨none, 0, by rw [hv, hn], hl, .inl (List.eq_nil_of_length_eq_zero hn)⟩
  · refine ⟨_, cap, rfl, hl, .inr ⟨g, 0, rfl, (hlt g rfl).2, fun j e he c u hu => ?_⟩⟩
    have := hc g rfl (j * 3 + c) u (cellsE_get l j e he c u hu)
    rw [Addr.add_lit] at this
    simpa only [Nat.zero_add] using this
theorem Try.infoEnd : (Try.prog.info? 35).map (fun i => (i.zero, i.size, i.bytes)) = some (some (.agg #[.int .i64 0, .int .i64 0, .int .i64 0]), 3, 24) := by kernel_rfl
theorem tMapBool : Try.prog.underlying 38 = some (.map 3 4) := by kernel_rfl
theorem tInt : Try.prog.underlying 3 = some (.int .i64) := by kernel_rfl
theorem zeroBool (w : World) : (zeroValue 4).run Try.prog w = .ok (.bool false) w := by kernel_rfl
/-- The set of the numbers of a list. -/
def setOf (l : List Int) : List Int := l.foldl putU []
theorem mem_putU (U : List Int) (x id : Int) : id ∈ putU U x ↔ id ∈ U ∨ id = x := by
  unfold putU
  by_cases h : x ∈ U
  · rw [if_pos h]
    constructor
    · exact .inl
    · rintro (h1 | rfl)
      · exact h1
      · exact h
  · rw [if_neg h]; simp
theorem mem_setOf (l : List Int) (id : Int) : id ∈ setOf l ↔ id ∈ l := by
  have : ∀ (l U : List Int), id ∈ l.foldl putU U ↔ id ∈ U ∨ id ∈ l := by
    intro l
    induction l with
    | nil => intro U; simp
    | cons a l ih => intro U; rw [List.foldl_cons, ih, mem_putU]; simp [or_assoc]
  have h := this l []
  simp only [List.not_mem_nil, false_or] at h
  exact h
theorem setOf_snoc (l : List Int) (x : Int) : setOf (l ++ [x]) = putU (setOf l) x := by simp [setOf]
theorem run_makeHint (n : Int) (w : World) : (Instr.makeMap 38 (some (.int .i64 n))).run Try.prog w = .ok (.map (some w.heap.size)) (w.alloc (.map #[] 0)) := by
  simp [Instr.makeMap, run_underlying tMapBool, asInt, newObj, Result.andThen, go_sem]
  rfl
set_option maxHeartbeats 2000000 in
theorem among_any (v : Value) (zs : List Int) (w : World) (h : IntsIn w v zs) (hl : (zs.length : Int) ≤ 100000) :
    Calls Try.prog 21 #[v] w fun e w' => e = .returned (.map (some w.heap.size)) ∧ MapU w' w.heap.size (setOf zs) ∧ Upd [] w w' := by
  have hmm := run_makeHint zs.length w
  obtain ⟨a1, c1, rfl, -, -, hr1⟩ := h
  have HR1 := Lib.hid hr1
  obtain ⟨N, hN⟩ : ∃ N, zs.length = N := ⟨_, rfl⟩
  have HN := Lib.hid hN
  have HI0 : Hid (MapU (w.alloc (.map #[] 0)) w.heap.size (setOf (zs.take 0)) ∧ Upd [] w (w.alloc (.map #[] 0))) := Lib.hid ⟨by simpa [setOf] using MapU.new w, Upd.alloc [] _ _⟩
  rw [hN] at hl hmm ⊢
  clear hr1 hN
  go_enter Try.func21, Try.ntmps21
  go_upto_region 2 with fail
  obtain ⟨w1, hw1⟩ : ∃ w1, w.alloc (.map #[] 0) = w1 := ⟨_, rfl⟩
  obtain ⟨M, hM⟩ : ∃ M, w.heap.size = M := ⟨_, rfl⟩
  have HM := Lib.hid hM
  rw [hw1, hM] at HI0
  rw [hw1, hM]
  clear hw1 hmm
  go_wp2_with fail
  go_loopw [11] (fun i wr => ∃ q : Nat, q ≤ N ∧ i = .int .i64 q ∧ Hid (MapU wr M (setOf (zs.take q)) ∧ Upd [] w wr)) (fun i _ => N - (intOf i).toNat)
  case atStart => exact ⟨0, by omega, rfl, HI0⟩
  case round =>
    obtain ⟨q, hq, rfl, HI⟩ := hrel
    clear HI0
    by_cases hqn : q < N
    · have hqz : q < zs.length := by rw [HN.out]; exact hqn
      obtain ⟨b1, o1, rfl, x0⟩ : ∃ b off, a1 = some ⟨b, off, none⟩ ∧ w.cell? ⟨b, off + q, none⟩ = some (.int .i64 (zs.getD q 0)) := by
        rcases HR1.out with h | ⟨b, off, rfl, hc⟩
        · subst h; simp at hqz
        · exact ⟨b, off, rfl, hc q hqz⟩
      obtain ⟨z, hz⟩ : ∃ z, zs[q]? = some z := ⟨zs[q], by simp [hqz]⟩
      rw [List.getD, hz] at x0
      dsimp only [Option.getD] at x0
      have y0 := HI.out.2.cell x0 (by simp)
      obtain ⟨w3, hst, hm3, hu3, hs3⟩ := MapU.store HI.out.1 tMapBool tInt z
      have HI2 : Hid (MapU w3 M (setOf (zs.take (q + 1))) ∧ Upd [] w w3) := Lib.hid ⟨by
        rw [List.take_add_one, hz]
        show MapU w3 M (setOf (zs.take q ++ [z]))
        rw [setOf_snoc]; exact hm3, HI.out.2.trans' hu3 (fun i hi => by simp at hi; subst hi; exact .inr (by rw [HM.out]; exact Nat.le_refl _))⟩
      have q0 : (0 : Int) ≤ q := by omega
      have q1 : (q : Int) < N := by omega
      clear hz hqz hqn x0 hm3 hu3 hs3 HI
      go_wp2_with fail
      go_roundw
      case rel => exact ⟨q + 1, by omega, by go_num, HI2⟩
      case measure => simp [intOf] <;> omega
    · obtain rfl : q = N := by omega
      have HI2 : Hid (MapU wr M (setOf zs) ∧ Upd [] w wr) := Lib.hid (by have := HI.out; rwa [← HN.out, List.take_length] at this)
      clear hqn
      go_wp2_with fail
      go_ret
      rw [HM.out]
      exact ⟨rfl, HI2.out⟩
end Go.Proofs.Ythblblkifkndiaa
