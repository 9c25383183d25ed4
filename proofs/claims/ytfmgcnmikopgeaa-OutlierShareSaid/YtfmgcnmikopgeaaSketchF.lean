/- Layer 13: At, Join. -/
import Derived.Test.YtfmgcnmikopgeaaSketchE
import Derived.Deep.RegionHeld3
namespace Go.Proofs.Ytfmgcnmikopgeaa
open Go.RowKit
/-- How many are of a bucket below b. -/
def ltN (l : List Nat) : Nat → Nat
  | 0 => 0
  | b + 1 => cumN l b
theorem ltN_succ (l : List Nat) (b : Nat) : ltN l (b + 1) = ltN l b + cntN l b := by
  cases b with
  | zero => simp [ltN, cumN_zero]
  | succ b => exact cumN_succ l b
theorem ltN_le (l : List Nat) (b : Nat) : ltN l b ≤ l.length := by
  cases b with
  | zero => simp [ltN]
  | succ b => exact cumN_le l b
theorem told_of {l : List Nat} {k b : Nat} (hb : b ≤ 479) (h1 : ltN l b < k) (h2 : k ≤ ltN l (b + 1)) : Told l k b := by
  refine ⟨hb, h2, fun b' hlt => ?_⟩
  cases b with
  | zero => omega
  | succ b => exact Nat.lt_of_le_of_lt (cumN_mono l (by omega)) h1
def AtPost (l : List Nat) (p : Nat) (w : World) (e : Ending) (w' : World) : Prop := (∃ n : Nat, e = .returned (.int .i64 n) ∧ ((l = [] ∧ n = 0) ∨ ∃ b, Told l (place l.length p) b ∧ n = topB b)) ∧ Below w.heap.size w w'
set_option maxHeartbeats 1000000 in
theorem at_any (b m : Nat) (l : List Nat) (p : Nat) (w : World) (h : SkAt w b m l) (hlen : (l.length : Int) ≤ 999) (hl : ∀ n ∈ l, n < 4611686018427387904) (hp : (p : Int) ≤ 1000) :
    Calls Try.prog 44 #[.pointer (some ⟨b, 0, none⟩), .int .i64 p] w (AtPost l p w) := by
  have hlt := h.lt
  have c1 := h.1.cell 1 _ rfl
  have H := Lib.hid h
  have HL := Lib.hid hl
  have hmf : ∀ (fn : Fn) (first cap : Array Value) (w : World), (Instr.makeFunc fn first cap).run Try.prog w = .ok (.func fn first cap) w := fun _ _ _ _ => rfl
  clear h hl
  by_cases h0 : l = []
  · subst h0
    go_enter Try.func44, Try.ntmps44
    go_wp2
    go_ret
    exact ⟨⟨0, rfl, .inl ⟨rfl, rfl⟩⟩, (Below.refl _ _).alloc (Nat.le_refl _) _⟩
  · have hl0 : 0 < l.length := List.length_pos_iff.2 h0
    have ht : ((l.length : Int) == 0) = false := by simp only [beq_eq_false_iff_ne, ne_eq]; omega
    have hq : (l.length : Int) / 1000 = 0 := by omega
    have hr : (l.length : Int) % 1000 = l.length := by omega
    have hmul : l.length * p ≤ 1000 * 1000 := Nat.mul_le_mul (by omega) (by omega)
    have hm : ((l.length : Int) * p) = ((l.length * p : Nat) : Int) := by simp
    obtain ⟨X, hX⟩ : ∃ X : Nat, l.length * p = X := ⟨_, rfl⟩
    rw [hX] at hm hmul
    have hb1 : (l.length : Int) * p ≤ 1000000 := by rw [hm]; omega
    have hb0 : 0 ≤ (l.length : Int) * p := by rw [hm]; omega
    have HM := Lib.hid hm
    have hK : place l.length p = max 1 (upN X 1000) := by unfold place; rw [hX]
    have hK2 : place l.length p ≤ l.length := place_le _ _ hl0 (by omega)
    obtain ⟨K, hKK⟩ : ∃ K, place l.length p = K := ⟨_, rfl⟩
    rw [hKK] at hK hK2
    have HK := Lib.hid hKK
    obtain ⟨U, hU⟩ : ∃ U, upN X 1000 = U := ⟨_, rfl⟩
    rw [hU] at hK
    have hmx : max 1 (U : Int) = (K : Int) := by omega
    have hUb : U ≤ 1000 := by omega
    have hK1 : 1 ≤ K := by omega
    have HU := Lib.hid hU
    clear hm hX hK hKK hU h0
    go_enter Try.func44, Try.ntmps44
    go_wp2_with fail
    have hS := BlockAt.new w 52 [.pointer (some ⟨b, 0, none⟩)]
    have hA := H.out.keep (Upd.alloc [] w (.cells #[.pointer (some ⟨b, 0, none⟩)] 52)) (by simp) (by simp)
    have hbw : Below w.heap.size w (w.alloc (.cells #[.pointer (some ⟨b, 0, none⟩)] 52)) := (Below.refl _ _).alloc (Nat.le_refl _) _
    have hsz : w.heap.size < (w.alloc (.cells #[.pointer (some ⟨b, 0, none⟩)] 52)).heap.size := by simp
    obtain ⟨W, hW⟩ : ∃ W, w.alloc (.cells #[.pointer (some ⟨b, 0, none⟩)] 52) = W := ⟨_, rfl⟩
    change BlockAt (w.alloc (.cells #[.pointer (some ⟨b, 0, none⟩)] 52)) _ _ _ at hS
    rw [hW] at hS hA hbw hsz ⊢
    obtain ⟨S, hSS⟩ : ∃ S, w.heap.size = S := ⟨_, rfl⟩
    rw [hSS] at hS hsz hlt ⊢
    have HSS := Lib.hid hSS
    have s0 := hS.cell 0 _ rfl
    have d1 := hA.1.cell 1 _ rfl
    have HS := Lib.hid hS
    have HA := Lib.hid hA
    clear hS hA hW c1 hSS
    have htq : (l.length : Int).tdiv 1000 = 0 := by rw [tdiv_nonneg _ _ (by omega)]; exact hq
    have htr : (l.length : Int).tmod 1000 = l.length := by rw [tmod_nonneg _ _ (by omega)]; exact hr
    have hw0 : IntKind.i64.wrap 0 = 0 := rfl
    have hwX : IntKind.i64.wrap ((l.length : Int) * p) = X := by rw [show (l.length : Int) * p = X from HM.out]; exact IntWalk.i64_in _ (by omega)
    have hwU : IntKind.i64.wrap (U : Int) = U := IntWalk.i64_in _ (by omega)
    clear hq hr
    have hbS : b < W.heap.size := by omega
    go_region_held3 (fun w' => w'.cell? ⟨S, 0, none⟩ = some (.pointer (some ⟨b, 0, none⟩)) ∧ w'.cell? ⟨b, 1, none⟩ = some (.int .i64 l.length)) (first | go_keep | exact ⟨s0, d1⟩) ((go_at_call 58; rw [show (1000 : Int) = ((1000 : Nat) : Int) from rfl]; refine (up_any X 1000 _ (by omega) (by omega) (by omega)).mono ?_; rintro e w' ⟨rfl, rfl⟩; rw [show upN X 1000 = U from HU.out]))
    all_goals go_wp2_with fail
    all_goals
      clear htq htr hw0 hwX hwU hb0 hb1 hmul s0 d1
      have hLb : BlockAt (W.alloc (.cells #[.int .i64 (K : Int)] 3)).drew W.heap.size 3 [.int .i64 (K : Int)] := BlockAt.new W 3 [.int .i64 (K : Int)]
      have hu1 : Upd [] W (W.alloc (.cells #[.int .i64 (K : Int)] 3)).drew := (Upd.alloc _ _ _).trans (Upd.drew _ _)
      obtain ⟨W1, hW1⟩ : ∃ W1, (W.alloc (.cells #[.int .i64 (K : Int)] 3)).drew = W1 := ⟨_, rfl⟩
      rw [hW1] at hLb hu1 ⊢
      obtain ⟨L, hLL⟩ : ∃ L, W.heap.size = L := ⟨_, rfl⟩
      rw [hLL] at hLb hsz ⊢
      have hA1 := HA.out.keep hu1 (by simp) (by simp)
      have hS1 := HS.out.keep hu1 (by simp)
      have hb1 : Below w.heap.size w W1 := hbw.trans (hu1.below (by have := HSS.out; omega) (by simp))
      have HLL := Lib.hid hLL
      clear hW1 hLL hu1 hbS HA HS hmx
      obtain ⟨M, hM⟩ : ∃ M : Nat, (480 : Int) ≤ M := ⟨480, by omega⟩
      go_loopw [31] (fun i wr => ∃ k : Nat, (k : Int) ≤ 480 ∧ i = .int .i64 k ∧ ltN l k < K ∧ SkAt wr b m l ∧ BlockAt wr S 52 [.pointer (some ⟨b, 0, none⟩)] ∧ BlockAt wr L 3 [.int .i64 ((K : Int) - ltN l k)] ∧ Below w.heap.size w wr) (fun i _ => M - (intOf i).toNat)
      case atStart => exact ⟨0, by omega, rfl, by simp [ltN]; omega, hA1, hS1, by simpa [ltN] using hLb, hb1⟩
      case round =>
        obtain ⟨k, hk, rfl, hlk, hA, hS, hL, hbr⟩ := hrel
        clear hA1 hS1 hLb hb1
        have hle := ltN_le l k
        have hss := ltN_succ l k
        have HLK := Lib.hid hlk
        have HA := Lib.hid hA
        have HS := Lib.hid hS
        have HLB := Lib.hid hL
        by_cases hlt4 : (k : Int) < 480
        · have hcn := cntN_le l k
          obtain ⟨C, hC⟩ : ∃ C, cntN l k = C := ⟨_, rfl⟩
          obtain ⟨T, hT⟩ : ∃ T, ltN l k = T := ⟨_, rfl⟩
          rw [hC, hT] at hss
          rw [hC] at hcn
          rw [hT] at hlk hle hL
          have HC := Lib.hid hC
          have HT := Lib.hid hT
          have HSS2 := Lib.hid hss
          clear hC hT hss hA hS
          have HL2 := Lib.hid hL
          clear hL
          go_wp2_with fail
          refine (reached_any b m L S l k ((K : Int) - T) wr HA.out HL2.out HS.out (by omega) (by omega) (by omega)).mono ?_
          rintro e w2 ⟨rfl, hL2, hu2⟩
          rw [show cntN l k = C from HC.out] at hL2 ⊢
          have hb2 : Below w.heap.size w w2 := hbr.trans (hu2.below hbr.size (by have := HSS.out; simp; omega))
          by_cases hd : (K : Int) - T - C ≤ 0
          · have hdd : decide ((K : Int) - T - C ≤ 0) = true := by simpa using hd
            rw [hdd]
            have htold := Lib.hid (told_of (l := l) (k := K) (b := k) (by omega) (by rw [HT.out]; exact hlk) (by rw [HSS2.out]; omega))
            clear hL2 hu2 hdd hd
            go_wp2_with fail
            refine (top_any k w2 (by omega)).mono ?_
            rintro e w3 ⟨rfl, rfl⟩
            go_wp2
            go_ret
            exact ⟨⟨topB k, rfl, .inr ⟨k, by rw [show place l.length p = K from HK.out]; exact htold.out, rfl⟩⟩, hb2⟩
          · have hdd : decide ((K : Int) - T - C ≤ 0) = false := by simpa using hd
            rw [hdd]
            have hA2 := HA.out.keep hu2 (by simp; omega) (by simp; omega)
            have hS2 := HS.out.keep hu2 (by simp; omega)
            have HA2 := Lib.hid hA2
            have HS2 := Lib.hid hS2
            have HLL2 := Lib.hid hL2
            have hnew : ltN l (k + 1) < K := by rw [HSS2.out]; omega
            have hval : (K : Int) - ltN l (k + 1) = (K : Int) - T - C := by rw [HSS2.out]; omega
            have HNEW := Lib.hid hnew
            have HVAL := Lib.hid hval
            clear hL2 hu2 hdd hA2 hS2 hnew hval
            go_wp2_with fail
            go_roundw
            case rel => exact ⟨k + 1, by omega, by go_num, HNEW.out, HA2.out, HS2.out, by rw [show (K : Int) - ltN l (k + 1) = _ from HVAL.out]; exact HLL2.out, hb2⟩
            case measure => simp [intOf]; omega
        · exfalso
          have hk480 : k = 479 + 1 := by omega
          subst hk480
          have h1 := HLK.out
          have h2 := cumN_all l HL.out
          simp only [ltN] at h1
          omega
end Go.Proofs.Ytfmgcnmikopgeaa
