/- Layer 13: of, lives. -/
import Derived.Test.YtobmnjigenplnaaSketchF
import Derived.Test.YtobmnjigenplnaaSketchD
namespace Go.Proofs.Ytobmnjigenplnaa
open Go.RowKit
def OfPost (l : List Nat) (w : World) (e : Ending) (w' : World) : Prop := e = .returned (.pointer (some ⟨w.heap.size + 1, 0, none⟩)) ∧ SkAt w' (w.heap.size + 1) w.heap.size l ∧ Below w.heap.size w w'
theorem of_any (v : Value) (l : List Nat) (w : World) (h : IntsIn w v (nats l)) (hlen : l.length ≤ 1000) (hl : ∀ n ∈ l, n < 4611686018427387904) :
    Calls Try.prog 19 #[v] w (OfPost l w) := by
  rcases h.read with ⟨h0, a, cap, rfl⟩ | ⟨b, off, cap, rfl, hb, -, hr, hc⟩
  · have : l = [] := by simpa [nats] using h0
    subst this
    go_enter Try.func19, Try.ntmps19
    go_wp2_with fail
    refine (newSk_any _).mono ?_
    rintro e w1 ⟨rfl, hs, hu⟩
    go_wp2_with fail
    refine wp_loop_rounds 1 ?_
    rw [rounds_succ]
    go_wp2
    go_ret
    exact ⟨rfl, hs, hu.below (Nat.le_refl _) (by simp)⟩
  · rw [nats_length] at *
    have HL := Lib.hid hl
    clear h hl
    go_enter Try.func19, Try.ntmps19
    go_wp2_with fail
    refine (newSk_any _).mono ?_
    rintro e w1 ⟨rfl, hs, hu⟩
    have hb1 := hu.below (Nat.le_refl _) (by simp)
    go_wp2_with fail
    go_loopw [4] (fun i wr => ∃ k : Nat, k ≤ l.length ∧ i = .int .i64 k ∧ SkAt wr (w.heap.size + 1) w.heap.size (l.take k) ∧ Below w.heap.size w wr) (fun i _ => l.length - (intOf i).toNat)
    case atStart => exact ⟨0, by omega, rfl, hs, hb1⟩
    case round =>
      obtain ⟨k, hk, rfl, hs2, hbr⟩ := hrel
      have HS := Lib.hid hs2
      have HB := Lib.hid hbr
      clear hs hu hb1
      by_cases hlt : k < l.length
      · obtain ⟨x, hx⟩ : ∃ x, l[k]? = some x := ⟨l[k], by simp [hlt]⟩
        have hxc : wr.cell? ⟨b, off + k, none⟩ = some (.int .i64 (x : Int)) := by rw [hbr.cell (p := ⟨b, off + k, none⟩) hb]; exact hc k x (nats_get hx)
        have HX := Lib.hid hx
        clear hs2 hbr hx hc hr
        go_wp2_with fail
        refine (add_any (w.heap.size + 1) w.heap.size (l.take k) x wr HS.out (by simp; omega) (HL.out x (List.mem_of_getElem? HX.out))).mono ?_
        rintro e w2 ⟨rfl, hs3, hu3⟩
        rw [← take_snoc_of' HX.out] at hs3
        have HS3 := Lib.hid hs3
        have hb3 : Below w.heap.size w w2 := HB.out.trans (hu3.below HB.out.size (by simp))
        clear hs3 hu3
        go_wp2_with fail
        go_roundw
        case rel => exact ⟨k + 1, by omega, by go_num, HS3.out, hb3⟩
        case measure => simp [intOf]; omega
      · have : k = l.length := by omega
        subst this
        clear hs2 hbr hc hr
        go_wp2
        go_ret
        exact ⟨rfl, by have := HS.out; rwa [List.take_length] at this, HB.out⟩
theorem told_1 : Told [1, 2, 3, 100] (place 4 500) 2 := ⟨by decide, by decide, by decide⟩
theorem told_2 : Told [1, 2, 3, 100] (place 4 1000) 36 := ⟨by decide, by decide, by decide⟩
theorem buck_1 : bucketN 18 = 17 := by decide
theorem buck_2 : bucketN 32 = 24 := by decide
def TruePost (w : World) (e : Ending) (w' : World) : Prop := e = .returned (.bool true) ∧ Below w.heap.size w w'
def IntPost (n : Nat) (w : World) (e : Ending) (w' : World) : Prop := e = .returned (.int .i64 n) ∧ Below w.heap.size w w'
theorem atv_any (b m : Nat) (l : List Nat) (p : Nat) (w : World) (h : SkAt w b m l) (hlen : (l.length : Int) ≤ 999) (hl : ∀ n ∈ l, n < 4611686018427387904) (hp : (p : Int) ≤ 1000) :
    Calls Try.prog 21 #[.pointer (some ⟨b, 0, none⟩), .int .i64 p] w (IntPost (atVal l p) w) := by
  refine (at_any b m l p w h hlen hl hp).mono ?_
  rintro e w' ⟨⟨n, rfl, ⟨h0, h1⟩ | ⟨c, hc, rfl⟩⟩, hb⟩
  · subst h0 h1; exact ⟨rfl, hb⟩
  · by_cases h0 : l = []
    · subst h0
      have := hc.2.1
      have h1 : 1 ≤ place ([] : List Nat).length p := by unfold place; omega
      have h2 := cumN_le ([] : List Nat) c
      simp at h2; omega
    · rw [atVal_told h0 hc]; exact ⟨rfl, hb⟩
theorem ratv_any (v : Value) (l : List Nat) (p : Nat) (w : World) (h : IntsIn w v (nats l)) (hlen : l.length ≤ 1000) (hl : ∀ n ∈ l, n < 4611686018427387904) (hp : (p : Int) ≤ 1000) :
    Calls Try.prog 22 #[v, .int .i64 p] w (IntPost (atVal l p) w) := by
  refine (rat_any v l p w h hlen hl hp).mono ?_
  rintro e w' ⟨⟨n, rfl, ⟨h0, h1⟩ | ⟨x, hx, rfl⟩⟩, hb⟩
  · subst h0 h1; exact ⟨rfl, hb⟩
  · rw [atVal_sought hl hx]; exact ⟨rfl, hb⟩
theorem intsIn_new (w : World) (zs : List Int) (hl : zs.length ≤ 1000) (hr : ∀ z ∈ zs, -9223372036854775808 ≤ z ∧ z ≤ 9223372036854775807) (n : Nat) (hn : n = zs.length) :
    IntsIn (w.alloc (.cells (zs.map (Value.int .i64)).toArray 3)) (.slice (some ⟨w.heap.size, 0, none⟩) n n) zs := by
  subst hn
  refine ⟨_, _, rfl, by omega, hr, .inr ⟨w.heap.size, 0, rfl, fun j hj => ?_⟩⟩
  rw [Nat.zero_add]
  exact BlockAt.cell (BlockAt.new w 3 (zs.map (Value.int .i64))) j _ (by simp [hj, List.getD])
def exL : List Nat := [1, 2, 3, 100]
theorem exL_lt : ∀ n ∈ exL, n < 4611686018427387904 := by decide
theorem ex_1 : atVal exL 500 = 2 := (atVal_told (by decide) told_1).trans (by decide)
theorem ex_2 : atVal exL 1000 = 103 := (atVal_told (by decide) told_2).trans (by decide)
theorem lives_any (w : World) : Calls Try.prog 16 #[] w (TruePost w) := by
  have hi : IntsIn (w.alloc (.cells #[.int .i64 1, .int .i64 2, .int .i64 3, .int .i64 100] 3)) (.slice (some ⟨w.heap.size, 0, none⟩) 4 4) (nats exL) := intsIn_new w (nats exL) (by decide) (nats_range exL_lt) 4 rfl
  have HI := Lib.hid hi
  have H1 := Lib.hid ex_1
  have H2 := Lib.hid ex_2
  have H3 := Lib.hid buck_1
  have H4 := Lib.hid buck_2
  clear hi
  go_enter Try.func16, Try.ntmps16
  go_wp2_with fail
  refine (of_any _ exL _ HI.out (by decide) exL_lt).mono ?_
  rintro e w1 ⟨rfl, hs, hb⟩
  have HS := Lib.hid hs
  have hb1 : Below w.heap.size w w1 := ((Below.refl _ _).alloc (Nat.le_refl _) _).trans (hb.mono (by simp))
  clear hs hb
  obtain ⟨B, hB⟩ : ∃ B, (w.alloc (.cells #[.int .i64 1, .int .i64 2, .int .i64 3, .int .i64 100] 3)).heap.size = B := ⟨_, rfl⟩
  rw [hB] at HS ⊢
  clear hB
  go_wp2_with fail
  refine (atv_any (B + 1) B exL 500 w1 HS.out (by decide) exL_lt (by omega)).mono ?_
  rintro e w2 ⟨rfl, hb2⟩
  rw [show atVal exL 500 = 2 from H1.out]
  have HS2 := Lib.hid (HS.out.keep (Upd.ofBelow hb2) (by simp) (by simp))
  go_wp2_with fail
  refine (atv_any (B + 1) B exL 1000 w2 HS2.out (by decide) exL_lt (by omega)).mono ?_
  rintro e w3 ⟨rfl, hb3⟩
  rw [show atVal exL 1000 = 103 from H2.out]
  have HS3 := Lib.hid (HS2.out.keep (Upd.ofBelow hb3) (by simp) (by simp))
  go_wp2_with fail
  refine (skLen_any (B + 1) B exL w3 HS3.out).mono ?_
  rintro e w4 ⟨rfl, rfl⟩
  rw [show exL.length = 4 from rfl]
  go_wp2_with fail
  refine (bucket_any 18 w3 (by decide)).mono ?_
  rintro e w4 ⟨rfl, rfl⟩
  rw [show bucketN 18 = 17 from H3.out]
  go_wp2_with fail
  refine (bucket_any 32 w3 (by decide)).mono ?_
  rintro e w4 ⟨rfl, rfl⟩
  rw [show bucketN 32 = 24 from H4.out]
  go_wp2
  go_ret
  exact ⟨rfl, (hb1.trans (hb2.mono hb1.size)).trans (hb3.mono (Nat.le_trans hb1.size hb2.size))⟩
end Go.Proofs.Ytobmnjigenplnaa
