/- Layer 22: Drop; Take and Len with blocks beside. -/
import Derived.Test.YtapoikegoknlcaaFairL
namespace Go.Proofs.Ytapoikegoknlcaa
open Go.RowKit
theorem dropF_any (x : It) (f : Int) (s : Nat) (w : World) (hs : w.cell? ⟨s, 0, none⟩ = some (.int .i64 f)) :
    Calls Try.prog 34 #[x.val, .pointer (some ⟨s, 0, none⟩)] w fun e w' => e = .returned (.bool (x.id == f)) ∧ Below w.heap.size w w' := by
  have hl := World.block_lt_of_cell? w _ hs
  have hs2 : (w.alloc (.cells #[.int .i64 x.id, .int .i64 x.prio, .int .i64 x.flow] 27)).cell? ⟨s, 0, none⟩ = some (.int .i64 f) := (Upd.alloc [] w _).cell hs (by simp)
  obtain ⟨xi, xp, xf⟩ := x
  unfold It.val
  dsimp only at *
  obtain ⟨B, hB⟩ : ∃ B, (xi == f) = B := ⟨_, rfl⟩
  rw [hB]
  go_enter Try.func34, Try.ntmps34
  go_wp2
  go_ret
  exact ⟨rfl, (Below.refl _ _).alloc (Nat.le_refl _) _⟩
def IdxD (l : List It) (f : Int) (k : Int) : Prop := (k = -1 ∧ ∀ (i : Nat) (x : It), l[i]? = some x → ¬ x.id = f) ∨ ∃ i : Nat, k = i ∧ FirstAt l (fun x => x.id = f) i
def IdxDPost (l : List It) (f : Int) (w : World) (e : Ending) (w' : World) : Prop := (∃ k : Int, e = .returned (.int .i64 k) ∧ IdxD l f k) ∧ Below w.heap.size w w'
set_option maxHeartbeats 1000000 in
theorem idxD_any (ao : Option Addr) (cap s : Nat) (l : List It) (f : Int) (w : World) (hi : l = [] ∨ ∃ g, ao = some ⟨g, 0, none⟩ ∧ ItemsIn w g l ∧ l.length ≤ cap ∧ cap ≤ maxLen) (hl : (l.length : Int) ≤ 1000000) (hs : w.cell? ⟨s, 0, none⟩ = some (.int .i64 f)) :
    Calls Try.prog 28 #[.slice ao l.length cap, .func (Fn.func 34) #[] #[.pointer (some ⟨s, 0, none⟩)]] w (IdxDPost l f w) := by
  have HI := Lib.hid hi
  have HS := Lib.hid hs
  obtain ⟨n, hn⟩ : ∃ n, l.length = n := ⟨_, rfl⟩
  have HN := Lib.hid hn
  rw [hn] at hl ⊢
  have HST : Hid (∀ (i : Nat) (x : It), i < 0 → l[i]? = some x → ¬ x.id = f) := Lib.hid (fun i x h => by omega)
  clear hi hs hn
  go_enter Try.func28, Try.ntmps28
  go_wp2_with fail
  go_loopw [8] (fun i wr => ∃ j : Nat, (j : Int) ≤ n ∧ i = .int .i64 j ∧ Hid (∀ (i : Nat) (x : It), i < j → l[i]? = some x → ¬ x.id = f) ∧ Hid (Below w.heap.size w wr)) (fun i _ => n - (intOf i).toNat)
  case atStart => exact ⟨0, by omega, rfl, HST, Lib.hid (Below.refl _ _)⟩
  case round =>
    obtain ⟨j, hj, rfl, HF, HB⟩ := hrel
    clear HST
    by_cases hlt : (j : Int) < n
    · obtain ⟨x, hx⟩ : ∃ x, l[j]? = some x := ⟨l[j]'(by rw [HN.out]; omega), by simp⟩
      obtain ⟨g, rfl, hin, hnc, hcm⟩ : ∃ g, ao = some ⟨g, 0, none⟩ ∧ ItemsIn w g l ∧ l.length ≤ cap ∧ cap ≤ maxLen := by
        rcases HI.out with h | h
        · rw [h] at hx; simp at hx
        · exact h
      obtain ⟨c0, c1, c2⟩ := (hin.keep (Upd.ofBelow HB.out) (by simp)) j x hx
      have hsw := (Upd.ofBelow HB.out).cell HS.out (by simp)
      have CT := Lib.hid (dropF_any x f s wr hsw)
      obtain ⟨xi, xp, xf⟩ := x
      unfold It.val at CT
      dsimp only at c0 c1 c2 CT
      have j0 : (0 : Int) ≤ j := by omega
      by_cases hf : xi = f
      · have hb : (xi == f) = true := by simpa using hf
        rw [hb] at CT
        have HFA := Lib.hid (show FirstAt l (fun x => x.id = f) j from ⟨⟨_, hx, hf⟩, HF.out⟩)
        clear hb hf hx hsw hin hnc hcm
        go_wp2_with fail
        refine CT.out.mono ?_
        rintro e w1 ⟨rfl, hb⟩
        have HB1 := Lib.hid (HB.out.trans (hb.mono HB.out.size))
        clear hb c0 c1 c2
        go_wp2
        go_ret
        exact ⟨⟨j, rfl, .inr ⟨j, rfl, HFA.out⟩⟩, HB1.out⟩
      · have hb : (xi == f) = false := by simpa using hf
        rw [hb] at CT
        have HFN : Hid (∀ (i : Nat) (x : It), i < j + 1 → l[i]? = some x → ¬ x.id = f) := Lib.hid (fun i y hi hy => by
          rcases (show i < j ∨ i = j by omega) with h | rfl
          · exact HF.out i y h hy
          · rw [hx] at hy; cases hy; exact hf)
        clear hb hf hx hsw hin hnc hcm
        go_wp2_with fail
        refine CT.out.mono ?_
        rintro e w1 ⟨rfl, hb⟩
        have HB1 := Lib.hid (HB.out.trans (hb.mono HB.out.size))
        clear hb c0 c1 c2
        go_wp2_with fail
        go_roundw
        case rel => exact ⟨j + 1, by omega, by go_num, HFN, HB1⟩
        case measure => simp [intOf] <;> omega
    · have HFN : Hid (∀ (i : Nat) (x : It), l[i]? = some x → ¬ x.id = f) := Lib.hid (fun i x hx => HF.out i x (by have := (List.getElem?_eq_some_iff.1 hx).1; have := HN.out; omega) hx)
      go_wp2_with fail
      go_ret
      exact ⟨⟨-1, rfl, .inl ⟨rfl, HFN.out⟩⟩, HB.out⟩
/-- What Drop does: the first one of that ID of the least priority that has one. -/
inductive DropIs (r : Nat → Row) (id : Int) : (Nat → Row) → Bool → Prop
  | none : (∀ q, q < 4 → ∀ (i : Nat) (x : It), (r q).items[i]? = some x → ¬ x.id = id) → DropIs r id r false
  | some (p i : Nat) : p < 4 → (∀ q, q < p → ∀ (i : Nat) (x : It), (r q).items[i]? = some x → ¬ x.id = id) → FirstAt (r p).items (fun x => x.id = id) i → DropIs r id (upd r p ⟨(r p).items.eraseIdx i, (r p).taken, (r p).last⟩) true
def DropPost (base b : Nat) (most n : Int) (r : Nat → Row) (S : List Nat) (id : Int) (w : World) (e : Ending) (w' : World) : Prop :=
  ∃ r' is, DropIs r id r' is ∧ e = .returned (.bool is) ∧ QPost base b most (if is then n - 1 else n) r' S w w'
set_option maxHeartbeats 2000000 in
theorem drop_qs (base b : Nat) (most n : Int) (r : Nat → Row) (S : List Nat) (id : Int) (w : World) (h : QS base w b most n r S) (hn0 : 0 ≤ n) (hn : n ≤ 1000000) (hlen : ∀ q, q < 4 → ((r q).items.length : Int) ≤ 1000000) (hne0 : ∀ q, q < 4 → (r q).items ≠ [] → 1 ≤ n) :
    Calls Try.prog 23 #[.pointer (some ⟨b, 0, none⟩), .int .i64 id] w (DropPost base b most n r S id w) := by
  have HLE := Lib.hid hlen
  have HNE := Lib.hid hne0
  have HB := Lib.hid h.base_le
  have HS := Lib.hid h.lt
  have hbl := h.blk_lt.1
  have HQ1 : Hid (QS base (w.alloc (.cells #[.int .i64 id] 3)) b most n r (w.heap.size :: S)) := Lib.hid (h.alloc _)
  have HZ1 : Hid (BlockAt (w.alloc (.cells #[.int .i64 id] 3)) w.heap.size 3 [.int .i64 id]) := Lib.hid (BlockAt.new w _ [.int .i64 id])
  have HST1 : Hid (QStep base S w (w.alloc (.cells #[.int .i64 id] 3))) := Lib.hid (QStep.upd (Upd.alloc [] _ _) HB.out (by simp) HS.out)
  have HE0 : Hid (∀ q, q < 0 → ∀ (i : Nat) (x : It), (r q).items[i]? = some x → ¬ x.id = id) := Lib.hid (fun q hq => by omega)
  clear h hlen hne0
  go_enter Try.func23, Try.ntmps23
  go_wp2_with fail
  obtain ⟨w1, hw1⟩ : ∃ w1, w.alloc (.cells #[.int .i64 id] 3) = w1 := ⟨_, rfl⟩
  obtain ⟨Z, hZ⟩ : ∃ Z, w.heap.size = Z := ⟨_, rfl⟩
  rw [hw1, hZ] at HZ1 HQ1
  rw [hw1] at HST1
  rw [hZ] at HB HS hbl
  rw [hw1, hZ]
  clear hw1 hZ
  go_loopw [8] (fun i wr => ∃ j : Nat, (j : Int) ≤ 4 ∧ i = .int .i64 j ∧ Hid (∀ q, q < j → ∀ (i : Nat) (x : It), (r q).items[i]? = some x → ¬ x.id = id) ∧ Hid (QS base wr b most n r (Z :: S)) ∧ Hid (BlockAt wr Z 3 [.int .i64 id]) ∧ Hid (QStep base S w wr)) (fun i _ => (4 - intOf i).toNat)
  case atStart => exact ⟨0, by omega, rfl, HE0, HQ1, HZ1, HST1⟩
  case round =>
    obtain ⟨p, hp, rfl, HE, HQ, HZ, HST⟩ := hrel
    clear HE0 HQ1 HZ1 HST1
    by_cases hlt : p < 4
    · have p0 : (0 : Int) ≤ p := by omega
      have p1 : (p : Int) < 4 := by omega
      have HP := Lib.hid hlt
      obtain ⟨-, -, ao, cap, c0, hrow⟩ := HQ.out.row hlt
      have CI := Lib.hid (idxD_any ao cap Z (r p).items id wr hrow (HLE.out p hlt) (HZ.out.cell 0 _ rfl))
      obtain ⟨nl, hnl⟩ : ∃ nl, (r p).items.length = nl := ⟨_, rfl⟩
      have HNL := Lib.hid hnl
      rw [hnl] at c0 CI
      clear hp hlt hrow hnl
      go_wp2_with fail
      refine CI.out.mono ?_
      rintro e w2 ⟨⟨k, rfl, hk⟩, hb2⟩
      have u2 := Upd.ofBelow hb2
      have HQ2 := Lib.hid (HQ.out.next u2)
      have HZ2 := Lib.hid (HZ.out.keep u2 (by simp))
      have HST2 := Lib.hid (HST.out.trans (QStep.upd u2 (HQ.out.base_le) (by simp) (fun k hk => HQ.out.lt k (by simp [hk]))))
      clear hb2 u2 c0 CI
      rcases hk with ⟨rfl, hno⟩ | ⟨i, rfl, hfi⟩
      · have HE2 : Hid (∀ q, q < p + 1 → ∀ (i : Nat) (x : It), (r q).items[i]? = some x → ¬ x.id = id) := Lib.hid (fun q hq => by
          rcases (show q = p ∨ q < p by omega) with rfl | hh
          · exact hno
          · exact HE.out q hh)
        clear hno
        go_wp2_with fail
        go_roundw
        case rel => exact ⟨p + 1, by omega, by go_num, HE2, HQ2, HZ2, HST2⟩
        case measure => simp [intOf] <;> omega
      · obtain ⟨x, hx, hxi⟩ := hfi.1
        have CR := Lib.hid (remove_qs base b most n r _ p i x w2 HQ2.out HP.out hx)
        have HFI := Lib.hid hfi
        have hn1 := HNE.out p HP.out (by intro hh; rw [hh] at hx; simp at hx)
        have i0 : (0 : Int) ≤ i := by omega
        clear hx hxi hfi
        go_wp2_with fail
        refine CR.out.mono ?_
        rintro e w3 ⟨rfl, hq3, hst3⟩
        have HQ3 := Lib.hid hq3
        have HST3 := Lib.hid (HST2.out.trans (hst3.sub (by simp +contextual)))
        obtain ⟨-, n4, fn4⟩ := hq3.cells
        have HQ5 := Lib.hid (hq3.count (n - 1))
        have hu5 := Upd.setCell w3 ⟨b, 1, none⟩ (.int .i64 (n - 1))
        have HST5 := Lib.hid (HST3.out.trans (QStep.upd hu5 hq3.base_le (by simp; exact ⟨hq3.blk_lt.2, fun hh => hq3.ne b (by simp [hh]) rfl⟩) (fun k hk => hq3.lt k (by simp [hk]))))
        clear hq3 hst3 hu5 CR
        go_wp2_with fail
        go_ret
        exact ⟨_, true, DropIs.some p i HP.out HE.out HFI.out, rfl, HQ5.out.sub (by simp +contextual), HST5.out⟩
    · obtain rfl : p = 4 := by omega
      clear hlt hp
      go_wp2_with fail
      go_ret
      exact ⟨r, false, DropIs.none (fun q hq => HE.out q hq), rfl, HQ.out.sub (by simp +contextual), HST.out⟩
theorem take_qs (base b : Nat) (most n : Int) (r : Nat → Row) (S : List Nat) (w : World) (h : QS base w b most n r S) (hn0 : 0 ≤ n) (hn : n ≤ 1000000) (hlen : ∀ q, q < 4 → ((r q).items.length : Int) ≤ 1000000) (hne0 : ∀ q, q < 4 → (r q).items ≠ [] → 1 ≤ n) :
    Calls Try.prog 14 #[.pointer (some ⟨b, 0, none⟩)] w fun e w' => ∃ r' x is, TakeIs r r' x is ∧ e = .returned (.tuple #[x.val, .bool is]) ∧ QPost base b most (if is then n - 1 else n) r' S w w' := by
  obtain ⟨v, h, hbw, hS⟩ := h
  refine (take_any base b most n v r w h hn0 hn hlen hne0 hbw).mono ?_
  rintro e w' ⟨v', r', x, is, ht, rfl, hq, ho, hu⟩
  exact ⟨r', x, is, ht, rfl, QS.of h hbw hS hq ho hu⟩
theorem len_qs (base b : Nat) (most n : Int) (r : Nat → Row) (S : List Nat) (w : World) (h : QS base w b most n r S) :
    Calls Try.prog 13 #[.pointer (some ⟨b, 0, none⟩)] w fun e w' => e = .returned (.int .i64 n) ∧ w = w' := by
  obtain ⟨v, h, -, -⟩ := h
  exact len_any base b most n v r w h
theorem newQ_qs (most : Int) (base : Nat) (S : List Nat) (w : World) (hb : base ≤ w.heap.size) (hS : ∀ k ∈ S, k < w.heap.size) : Calls Try.prog 10 #[.int .i64 most] w fun e w' =>
    e = .returned (.pointer (some ⟨w.heap.size, 0, none⟩)) ∧ QPost base w.heap.size most 0 (fun _ => ⟨[], false, 0⟩) S w w' := by
  refine (newQ_at most base w hb).mono ?_
  rintro e w' ⟨rfl, hq, hbl⟩
  refine ⟨rfl, ⟨_, hq, Nat.le_trans hb hbl.size, fun k hk => ⟨Nat.lt_of_lt_of_le (hS k hk) hbl.size, ?_⟩⟩, hbl.mono hb, hbl.size, fun k hk => hbl.block k (hS k hk)⟩
  rintro (rfl | ⟨q, hq, hk'⟩)
  · have := hS _ hk; omega
  · simp [Value.ownBlock] at hk'
end Go.Proofs.Ytapoikegoknlcaa
