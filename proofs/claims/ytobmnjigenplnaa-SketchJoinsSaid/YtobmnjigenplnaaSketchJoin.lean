/- Layer 13: the walk of Join. -/
import Derived.Test.YtobmnjigenplnaaSketchShare
namespace Go.Proofs.Ytobmnjigenplnaa
open Go.RowKit
def pc (base src : List Nat) (j : Nat) : Int → Int := fun x => cntI base x + if x < j then cntI src x else 0
theorem pc_zero (base src : List Nat) (x : Int) : cntI base x = pc base src 0 x := by
  unfold pc
  by_cases h : x < ((0 : Nat) : Int)
  · rw [if_pos h]; unfold cntI; rw [if_neg (by omega : ¬ 0 ≤ x)]; rw [if_neg (by omega : ¬ 0 ≤ x)]; rfl
  · rw [if_neg h]; omega
theorem pc_at (base src : List Nat) (j : Nat) : pc base src j (j : Int) = cntI base j := by
  unfold pc; rw [if_neg (by omega)]; omega
theorem pc_put (base src : List Nat) (j : Nat) : ∀ x, setAt (pc base src j) (j : Int) (pc base src j (j : Int) + cntN src j) x = pc base src (j + 1) x := by
  intro x
  unfold setAt
  by_cases h : x = (j : Int)
  · subst h
    rw [if_pos rfl, pc_at, ← cntI_nat]
    unfold pc; rw [if_pos (by omega)]
  · rw [if_neg h]
    unfold pc
    by_cases h2 : x < (j : Int)
    · rw [if_pos h2, if_pos (by omega)]
    · rw [if_neg h2, if_neg (by omega)]
theorem pc_skip (base src : List Nat) (j : Nat) (h0 : cntN src j = 0) : ∀ x, pc base src j x = pc base src (j + 1) x := by
  intro x
  unfold pc
  by_cases h : x = (j : Int)
  · subst h
    rw [if_neg (by omega), if_pos (by omega), cntI_nat, cntI_nat, h0]; rfl
  · by_cases h2 : x < (j : Int)
    · rw [if_pos h2, if_pos (by omega)]
    · rw [if_neg h2, if_neg (by omega)]
theorem cntN_ge {l : List Nat} (hl : ∀ n ∈ l, n < 4611686018427387904) {x : Nat} (h : 479 < x) : cntN l x = 0 := by
  unfold cntN
  rw [List.filter_eq_nil_iff.2 (fun n hn => ?_)]
  · rfl
  · have := bucketN_lt (hl n hn)
    simp; omega
theorem pc_all {base src : List Nat} (hl : ∀ n ∈ src, n < 4611686018427387904) (j : Nat) (hj : 479 < j) : ∀ x, pc base src j x = cntI (base ++ src) x := by
  intro x
  rw [cntI_append]
  unfold pc
  by_cases h2 : x < (j : Int)
  · rw [if_pos h2]
  · rw [if_neg h2]
    obtain ⟨y, rfl⟩ : ∃ y : Nat, x = (y : Int) := ⟨x.toNat, by omega⟩
    rw [cntI_nat src, cntN_ge hl (by omega)]; rfl
theorem ltN_all {l : List Nat} (hl : ∀ n ∈ l, n < 4611686018427387904) {j : Nat} (h : 479 < j) : ltN l j = l.length := by
  obtain ⟨i, rfl⟩ : ∃ i, j = i + 1 := ⟨j - 1, by omega⟩
  show cumN l i = _
  have h1 := cumN_all l hl
  have h2 := cumN_mono l (show 479 ≤ i by omega)
  have h3 := cumN_le l i
  omega
def parts (l l2 : List Nat) : Nat → List Nat
  | 0 => []
  | 1 => l
  | _ => l ++ l2
def JoinPost (l l2 : List Nat) (w : World) (e : Ending) (w' : World) : Prop := e = .returned (.pointer (some ⟨w.heap.size + 1, 0, none⟩)) ∧ SkAt w' (w.heap.size + 1) w.heap.size (l ++ l2) ∧ Below w.heap.size w w'
theorem join_any (b m b2 m2 : Nat) (l l2 : List Nat) (w : World) (h : SkAt w b m l) (h2 : SkAt w b2 m2 l2) (hlen : l.length + l2.length ≤ 900)
    (hl : ∀ n ∈ l, n < 4611686018427387904) (hl2 : ∀ n ∈ l2, n < 4611686018427387904) :
    Calls Try.prog 24 #[.pointer (some ⟨b, 0, none⟩), .pointer (some ⟨b2, 0, none⟩)] w (JoinPost l l2 w) := by
  have hpart : ∀ k : Nat, k < 2 → ∃ bs ms src, [Value.pointer (some ⟨b, 0, none⟩), Value.pointer (some ⟨b2, 0, none⟩)][k]? = some (.pointer (some ⟨bs, 0, none⟩)) ∧ SkAt w bs ms src ∧ (∀ n ∈ src, n < 4611686018427387904) ∧ parts l l2 (k + 1) = parts l l2 k ++ src ∧ (parts l l2 (k + 1)).length ≤ 900 := by
    intro k hk
    match k, hk with
    | 0, _ => exact ⟨b, m, l, rfl, h, hl, rfl, by simp [parts]; omega⟩
    | 1, _ => exact ⟨b2, m2, l2, rfl, h2, hl2, rfl, by simp [parts]; omega⟩
  have HPART := Lib.hid hpart
  clear h h2 hlen hl hl2 hpart
  go_enter Try.func24, Try.ntmps24
  go_wp2_with fail
  refine (newSk_any _).mono ?_
  rintro e w1 ⟨rfl, hs, hu⟩
  have hb1 : Below w.heap.size w w1 := hu.below (Nat.le_refl _) (by simp)
  have hB := BlockAt.new w1 28 [.pointer (some ⟨b, 0, none⟩), .pointer (some ⟨b2, 0, none⟩)]
  have hs2 := hs.keep (Upd.alloc [] w1 (.cells #[.pointer (some ⟨b, 0, none⟩), .pointer (some ⟨b2, 0, none⟩)] 28)) (by simp) (by simp)
  have hb2 := hb1.alloc hb1.size (.cells #[.pointer (some ⟨b, 0, none⟩), .pointer (some ⟨b2, 0, none⟩)] 28)
  have hlt := hs.lt
  have HS := Lib.hid hs2
  have HBB := Lib.hid hb2
  go_wp2_with fail
  obtain ⟨A, hA⟩ : ∃ A, w1.heap.size = A := ⟨_, rfl⟩
  change BlockAt (w1.alloc (.cells #[.pointer (some ⟨b, 0, none⟩), .pointer (some ⟨b2, 0, none⟩)] 28)) _ _ _ at hB
  rw [hA] at hlt hB ⊢
  have HB := Lib.hid hB
  clear hs hb1 hs2 hb2 hB hu hA
  obtain ⟨M, hM⟩ : ∃ M : Nat, (480 : Int) ≤ M := ⟨480, by omega⟩
  go_loopw [15] (fun i wr => ∃ k : Nat, k ≤ 2 ∧ i = .int .i64 k ∧ SkAt wr (w.heap.size + 1) w.heap.size (parts l l2 k) ∧ BlockAt wr A 28 [.pointer (some ⟨b, 0, none⟩), .pointer (some ⟨b2, 0, none⟩)] ∧ Below w.heap.size w wr) (fun i _ => 2 - (intOf i).toNat)
  case atStart => exact ⟨0, by omega, rfl, HS.out, HB.out, HBB.out⟩
  case round =>
    obtain ⟨k, hk, rfl, hsk, hbl, hbr⟩ := hrel
    have HSK := Lib.hid hsk
    have HBL := Lib.hid hbl
    have HBR := Lib.hid hbr
    clear HS HB HBB
    by_cases hk2 : k < 2
    · have hk2i : (k : Int) < 2 := by omega
      obtain ⟨bs, ms, src, hcell, hsrc, hslt, hpar, hplen⟩ := HPART.out k hk2
      have hca := hbl.cell k _ hcell
      have HSRC := Lib.hid hsrc
      have HSLT := Lib.hid hslt
      have HPAR := Lib.hid hpar
      rw [hpar, List.length_append] at hplen
      obtain ⟨base, hbase⟩ : ∃ base, parts l l2 k = base := ⟨_, rfl⟩
      rw [hbase] at hplen
      have HBASE := Lib.hid hbase
      have hstart : SkMap wr (w.heap.size + 1) w.heap.size (pc base src 0) (base.length + ltN src 0) := by
        have := HSK.out
        rw [hbase] at this
        exact SkMap.congr this (pc_zero base src) (by simp [ltN])
      have HST := Lib.hid hstart
      clear hsk hbl hbr hcell hsrc hslt hpar hbase hstart
      go_wp2_with fail
      go_loopw [19] (fun i wr => ∃ j : Nat, (j : Int) ≤ 480 ∧ i = .int .i64 j ∧ SkMap wr (w.heap.size + 1) w.heap.size (pc base src j) (base.length + ltN src j) ∧ BlockAt wr A 28 [.pointer (some ⟨b, 0, none⟩), .pointer (some ⟨b2, 0, none⟩)] ∧ Below w.heap.size w wr) (fun i _ => M - (intOf i).toNat)
      case atStart => exact ⟨0, by omega, rfl, HST.out, HBL.out, HBR.out⟩
      case round =>
        obtain ⟨j, hj, rfl, hsk, hbl, hbr⟩ := hrel
        have hsb := HSRC.out.keep (Upd.ofBelow hbr) (by simp) (by simp)
        obtain ⟨hsb1, es, clock, hsm, hsi⟩ := hsb
        have c0 := hsb1.cell 0 _ rfl
        have hlk : (Instr.lookup 40 (.map (some ms)) (.int .i64 j) false).run Try.prog wr = .ok (.int .i64 (cntN src j)) wr := by
          have := sk_look (w := wr) hsm hsi (j : Int)
          rwa [cntI_nat] at this
        have HSK2 := Lib.hid hsk
        have HBL2 := Lib.hid hbl
        have HBR2 := Lib.hid hbr
        have hss := ltN_succ src j
        have hle := ltN_le src j
        have hcn := cntN_le src j
        obtain ⟨C, hC⟩ : ∃ C, cntN src j = C := ⟨_, rfl⟩
        rw [hC] at hlk hss hcn
        have HC := Lib.hid hC
        have HSS := Lib.hid hss
        have hcb := cntI_le base j
        have hcb0 := cntI_nonneg base j
        clear hsb1 hsm hsi hsk hbl hbr hC hss HST
        by_cases hlt4 : (j : Int) < 480
        · by_cases hC0 : C = 0
          · subst hC0
            go_wp2_with fail
            go_roundw
            case rel => exact ⟨j + 1, by omega, by go_num, SkMap.congr HSK2.out (pc_skip base src j HC.out) (by rw [HSS.out]; omega), HBL2.out, HBR2.out⟩
            case measure => simp [intOf]; omega
          · have hd : decide (0 < C) = true := by simp; omega
            have hpos : 0 < C := by omega
            go_wp2_with fail
            refine (put_any (w.heap.size + 1) w.heap.size (pc base src j) (base.length + ltN src j) j C wr HSK2.out (by rw [pc_at]; exact hcb0) (by rw [pc_at]; omega) (by omega) (by omega) (by omega) (by omega)).mono ?_
            rintro e w3 ⟨rfl, hs3, hu3⟩
            have HS3 := Lib.hid hs3
            have hB3 := HBL2.out.keep hu3 (by simp; omega)
            have hb3 := HBR2.out.trans (hu3.below HBR2.out.size (by simp))
            have HB3 := Lib.hid hB3
            have HBB3 := Lib.hid hb3
            clear hs3 hu3 hB3 hb3
            go_wp2_with fail
            go_roundw
            case rel => exact ⟨j + 1, by omega, by go_num, SkMap.congr HS3.out (by have := pc_put base src j; rwa [HC.out] at this) (by rw [HSS.out]; omega), HB3.out, HBB3.out⟩
            case measure => simp [intOf]; omega
        · have hj480 : 479 < j := by omega
          have hall := ltN_all HSLT.out hj480 
          clear hlk c0
          have HF := Lib.hid (show SkAt wr (w.heap.size + 1) w.heap.size (parts l l2 (k + 1)) by
            rw [HPAR.out, HBASE.out]
            exact SkMap.congr HSK2.out (pc_all HSLT.out j hj480) (by rw [hall]; simp))
          go_wp2_with fail
          go_roundw
          case rel => exact ⟨k + 1, by omega, by go_num, HF.out, HBL2.out, HBR2.out⟩
          case measure => simp [intOf] <;> omega
    · have : k = 2 := by omega
      subst this
      go_wp2
      go_ret
      exact ⟨rfl, HSK.out, HBR.out⟩
end Go.Proofs.Ytobmnjigenplnaa
