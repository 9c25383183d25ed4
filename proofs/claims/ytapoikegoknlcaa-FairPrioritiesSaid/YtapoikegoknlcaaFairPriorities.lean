/- Layer 22: by their priorities; the walk of FairPriorities. -/
import Derived.Test.YtapoikegoknlcaaFairU
import Derived.Deep.DeepCutAuto
import Derived.RegionTactic
import Derived.IntWalk
namespace Go.Proofs.Ytapoikegoknlcaa
open Go.RowKit
def clamp01 (n : Int) : Int := if n < 0 then 0 else if 1 < n then 1 else n
theorem clamp01_any (n : Int) (w : World) : Calls Try.prog 19 #[.int .i64 n, .int .i64 0, .int .i64 1] w fun e w' => e = .returned (.int .i64 (clamp01 n)) ∧ w = w' := by
  go_enter Try.func19, Try.ntmps19
  by_cases a : n < 0
  · go_wp2
    go_ret
    exact ⟨by simp [clamp01, a], rfl⟩
  · by_cases b : 1 < n
    · go_wp2
      go_ret
      exact ⟨by simp [clamp01, a, b], rfl⟩
    · have e : n = clamp01 n := by unfold clamp01; rw [if_neg a, if_neg b]
      have E := Lib.hid e
      clear e
      go_wp2
      go_ret
      exact ⟨congrArg (fun n => Ending.returned (.int .i64 n)) E.out, rfl⟩
theorem put_low {most n n' : Int} {r r' : Nat → Row} {p : Nat} {x y : It} (h : RowsOk r n) (hp : p < 4) (hx : x.prio = (p : Int)) (hput : PutIs most n r p x r' n' y true) {q : Nat} (hq : q < 4) {z : It} (hz : z ∈ (r' q).items) : y.prio ≤ z.prio := by
  cases hput with
  | over _ _ ho hs =>
    obtain ⟨hok, s, hs4, hsy, hlow⟩ := (h.add hp hx).shed hs
    rw [hsy, hok.prio q hq z hz]
    rcases Nat.lt_or_ge q s with hh | hh
    · exfalso
      have h0 := hlow q hh
      cases hs with
      | some p' i f x' h1 h2 h3 h4 h5 h6 =>
        by_cases e : q = p'
        · subst e; rw [h0] at h4; simp at h4
        · rw [upd_other _ _ e, h0] at hz; cases hz
    · omega
set_option maxRecDepth 100000 in
set_option maxHeartbeats 4000000 in
theorem priorities_walk (l : Value) (zs : List Int) (n0 m0 : Int) (w : World) (hl : IntsIn w l zs) (hn1 : -9223372036854775808 ≤ n0) (hn2 : n0 ≤ 9223372036854775807) (hm1 : -9223372036854775808 ≤ m0) (hm2 : m0 ≤ 9223372036854775807) :
    Calls Try.prog 4 #[l, .int .i64 n0, .int .i64 m0] w (TruePost w) := by
  have b0 := around_nonneg m0 20 (by omega)
  have b1 := around_lt m0 20 (by omega)
  have CB := Lib.hid (fun w => around_any m0 20 w hm1 hm2 (by omega))
  obtain ⟨k, hk⟩ : ∃ k : Nat, around m0 20 = (k : Int) - 1 := ⟨(around m0 20).toNat + 1, by omega⟩
  rw [hk] at b0 b1 CB
  have k1 : (1 : Int) ≤ k := by omega
  have k2 : (k : Int) ≤ 20 := by omega
  have sk : (1 : Int) + ((k : Int) - 1) = k := by omega
  have CF := Lib.hid (filled_qs (k : Int) l zs w hl (by omega) (by omega))
  have CI := Lib.hid (fun w => item_any n0 99 w hn1 hn2)
  obtain ⟨p, hp, hpx⟩ := mkIt_prio n0 99
  obtain ⟨x, hx⟩ : ∃ x, mkIt n0 99 = x := ⟨_, rfl⟩
  rw [show (⟨99, around n0 100000 % 4, around n0 100000 / 4 % 5⟩ : It) = x from hx] at CI
  rw [hx] at hpx
  have HX := Lib.hid (And.intro hp hpx)
  obtain ⟨ao0, cap0, rfl, hln, -, -⟩ := hl
  obtain ⟨L, hL⟩ : ∃ L, zs.length = L := ⟨_, rfl⟩
  rw [hL] at CF hln ⊢
  have hll : (L : Int) ≤ 9223372036854775807 := by omega
  clear hk hm1 hm2 hn1 hn2 b0 b1 hp hpx hx hL hln
  go_enter Try.func4, Try.ntmps4
  go_wp2_with fail
  refine (CB.out _).mono ?_
  rintro e w' ⟨rfl, rfl⟩
  go_wp2_with fail
  refine CF.out.mono ?_
  rintro e w1 ⟨r, n, hputs, rfl, hq, hst⟩
  obtain ⟨b, hbe⟩ : ∃ b, w.heap.size = b := ⟨_, rfl⟩
  have HQ1 : Hid (QS w.heap.size w1 b k n r [] ∧ QStep w.heap.size [] w w1) := Lib.hid ⟨by rw [← hbe]; exact hq, hst⟩
  rw [hbe]
  have HPS := Lib.hid hputs
  clear hq hst hbe CF CB sk hputs
  go_wp2_with fail
  refine (CI.out _).mono ?_
  rintro e w2 ⟨rfl, hb2⟩
  have HQ2 : Hid (QS w.heap.size w2 b k n r [] ∧ QStep w.heap.size [] w w2) := Lib.hid ⟨HQ1.out.1.next (Upd.ofBelow hb2), HQ1.out.2.trans (QStep.upd (Upd.ofBelow hb2) HQ1.out.1.base_le (by simp) (by simp))⟩
  have hnl := HPS.out.len (by omega)
  have CP := Lib.hid (put_qs w.heap.size b k n r [] p x w2 HQ2.out.1 HX.out.1 HX.out.2 (by omega) (by omega) (fun q hq => by have := HPS.out.ok.row hq; omega) (by omega) (by omega))
  have HNL := Lib.hid hnl
  clear hb2 CI HQ1 hnl
  go_wp2_with fail
  refine CP.out.mono ?_
  rintro e w3 ⟨r', n', y, is, hput, rfl, hq3, hst3⟩
  have HOK := Lib.hid (HPS.out.ok.put HX.out.1 HX.out.2 hput)
  have HLOW : Hid (is = true → ∀ q, q < 4 → ∀ z ∈ (r' q).items, y.prio ≤ z.prio) := Lib.hid (fun hi q hq z hz => by subst hi; exact put_low HPS.out.ok HX.out.1 HX.out.2 hput hq hz)
  have HN' : Hid (n' = min ((min L 20 : Nat) : Int) k + if (min L 20 : Nat) < k then 1 else 0) := Lib.hid (by
    have h1 := HNL.out
    cases hput with
    | room hr => split <;> omega
    | over _ _ ho hs => split <;> omega)
  have HQ3 : Hid (QS w.heap.size (w3.alloc (.cells #[.int .i64 y.id, .int .i64 y.prio, .int .i64 y.flow] 27)) b k n' r' [w3.heap.size] ∧ QStep w.heap.size [] w (w3.alloc (.cells #[.int .i64 y.id, .int .i64 y.prio, .int .i64 y.flow] 27))) := Lib.hid ⟨hq3.alloc _, (HQ2.out.2.trans hst3).trans (QStep.upd (Upd.alloc [] _ _) hq3.base_le (by simp) (by simp))⟩
  have HZ3 : Hid (BlockAt (w3.alloc (.cells #[.int .i64 y.id, .int .i64 y.prio, .int .i64 y.flow] 27)) w3.heap.size 27 [.int .i64 y.id, .int .i64 y.prio, .int .i64 y.flow]) := Lib.hid (BlockAt.new w3 _ _)
  obtain ⟨yi, yp, yf⟩ := y
  unfold It.val
  dsimp only at HQ3 HZ3 HLOW ⊢
  clear hput hq3 hst3 CP HQ2
  go_wp2_with fail
  obtain ⟨W3, hW3⟩ : ∃ W, w3.alloc (.cells #[.int .i64 yi, .int .i64 yp, .int .i64 yf] 27) = W := ⟨_, rfl⟩
  obtain ⟨Z, hZ⟩ : ∃ Z, w3.heap.size = Z := ⟨_, rfl⟩
  rw [hW3, hZ] at HQ3 HZ3
  rw [hW3, hZ]
  clear hW3 hZ
  have CAll := Lib.hid (all_qs w.heap.size b k n' r' [Z] W3 HQ3.out.1 (fun q hq => by have := HOK.out.row hq; have := HN'.out; split at this <;> omega))
  refine CAll.out.mono ?_
  rintro e w4 ⟨o, ov, hall, rfl, hp⟩
  have hno := hall.length
  obtain ⟨ao, cap, rfl, hrow⟩ := rowRead hp.own
  have HZ4 := Lib.hid (hp.st.block (by simp) HZ3.out)
  have HB4 := Lib.hid (HQ3.out.2.below.trans hp.st.below)
  obtain ⟨no, hno'⟩ : ∃ n, o.length = n := ⟨_, rfl⟩
  have HNO := Lib.hid hno'
  have hnn : (no : Int) = n' := by rw [HOK.out.tot, ← hno, hno']
  have HNN := Lib.hid hnn
  have hnb : (no : Int) ≤ 50 := by have := HN'.out; split at this <;> omega
  have HFALL : Hid (∀ (i : Nat) (a c : It), o[i]? = some a → o[i + 1]? = some c → c.prio ≤ a.prio) := Lib.hid (fun i a c ha hc => by
    obtain ⟨h1, rfl⟩ := List.getElem?_eq_some_iff.1 ha
    obtain ⟨h2, rfl⟩ := List.getElem?_eq_some_iff.1 hc
    exact List.pairwise_iff_getElem.1 (hall.falls HOK.out) i (i + 1) h1 h2 (by omega))
  have HLOW2 : Hid (is = true → ∀ z ∈ o, yp ≤ z.prio) := Lib.hid (fun hi z hz => by
    obtain ⟨q, hq, hm⟩ := hall.mem hz
    exact HLOW.out hi q hq z hm)
  have HR4 : Hid (∀ (q : Nat) (x : It), o[q]? = some x → ∃ g, ao = some ⟨g, 0, none⟩ ∧ ItemsIn w4 g o ∧ o.length ≤ cap ∧ cap ≤ maxLen) := Lib.hid (fun q x hx => by
    rcases hrow with h | ⟨g, h1, h2, h3, h4, h5, h6⟩
    · exact absurd hx (by simp [h])
    · exact ⟨g, h1, h2, h3, h4⟩)
  rw [hno']
  clear hall hp hrow hno hno' CAll HQ3 HLOW HZ3 hnn
  go_wp2_with fail
  go_loopw [12] (fun i wr => ∃ q : Nat, q ≤ no ∧ i = .int .i64 q ∧ Hid (BlockAt wr Z 27 [.int .i64 yi, .int .i64 yp, .int .i64 yf]) ∧ Hid (Below w.heap.size w wr) ∧ Hid (∀ (q : Nat) (x : It), o[q]? = some x → ∃ g, ao = some ⟨g, 0, none⟩ ∧ ItemsIn wr g o ∧ o.length ≤ cap ∧ cap ≤ maxLen)) (fun i _ => no - (intOf i).toNat)
  case atStart => exact ⟨0, by omega, rfl, HZ4, HB4, HR4⟩
  case round =>
    obtain ⟨q, hq, rfl, HZ, HB, HR⟩ := hrel
    clear HZ4 HB4 HR4
    by_cases hqn : q < no
    · obtain ⟨x1, hx1⟩ : ∃ x, o[q]? = some x := ⟨o[q]'(by rw [HNO.out]; omega), by simp⟩
      obtain ⟨g, rfl, hin, hle, hcm⟩ := HR.out q x1 hx1
      obtain ⟨-, e1, -⟩ := hin q x1 hx1
      have hprev : ∀ p, p + 1 = q → ∃ x0, o[p]? = some x0 ∧ x1.prio ≤ x0.prio := fun p hp => by
        obtain ⟨x0, hx0⟩ : ∃ x, o[p]? = some x := ⟨o[p]'(by rw [HNO.out]; omega), by simp⟩
        exact ⟨x0, hx0, HFALL.out p x0 x1 hx0 (by rw [hp]; exact hx1)⟩
      have hlow := fun hi => HLOW2.out hi x1 (List.mem_of_getElem? hx1)
      obtain ⟨v1, hv1⟩ : ∃ v, x1.prio = v := ⟨_, rfl⟩
      rw [hv1] at e1 hlow
      have HPV := Lib.hid hprev
      have HLW := Lib.hid hlow
      have HIN := Lib.hid (And.intro hin (And.intro hle hcm))
      have q0 : (0 : Int) ≤ q := by omega
      have q1 : (q : Int) < no := by omega
      clear hx1 hin hle hcm hprev hlow hqn
      go_wp2_with fail
      go_cut [51] (fun s wx => s = .bool false ∧ ∃ n, wx = wr.drewN n)
      case first =>
        by_cases h0 : q = 0
        · subst h0
          go_region
          all_goals go_wp2_with fail
          all_goals
            go_meet
            exact ⟨rfl, 1, rfl⟩
        · obtain ⟨x0, hx0, hle⟩ := HPV.out (q - 1) (by omega)
          obtain ⟨-, f1, -⟩ := HIN.out.1 (q - 1) x0 hx0
          obtain ⟨v0, hv0⟩ : ∃ v, x0.prio = v := ⟨_, rfl⟩
          rw [hv0] at f1 hle
          rw [hv1] at hle
          have c1 : (0 : Int) < q := by omega
          have c1' : 0 < q := by omega
          have c2 : ((q : Int) - 1).toNat = q - 1 := by omega
          have c3 : (q : Int) - 1 < no := by omega
          have c4 : (0 : Int) ≤ (q : Int) - 1 := by omega
          have c5 : ¬ v0 < v1 := by omega
          clear hx0 hv0 hle hv1 h0
          have w1 : IntKind.i64.wrap ((q : Int) - 1) = (q : Int) - 1 := IntWalk.i64_in _ (by omega)
          go_quiet (fail)
          clear w1
          go_wp2_with fail
          go_meet
          exact ⟨rfl, _, rfl⟩
      case rest =>
        obtain ⟨rfl, nw, rfl⟩ := hcut
        have e1' : (wr.drewN nw).cell? ⟨g, q * 3 + 1, none⟩ = some (.int .i64 v1) := e1
        have z1 : (wr.drewN nw).cell? ⟨Z, 1, none⟩ = some (.int .i64 yp) := (HZ.out.drewN nw).cell 1 _ rfl
        have HZ5 := Lib.hid (HZ.out.drewN nw)
        have HB5 := Lib.hid (HB.out.trans ((Upd.drewN [] wr nw).below HB.out.size (by simp)))
        have HR5 : Hid (∀ (q : Nat) (x : It), o[q]? = some x → ∃ g', (some ⟨g, 0, none⟩ : Option Addr) = some ⟨g', 0, none⟩ ∧ ItemsIn (wr.drewN nw) g' o ∧ o.length ≤ cap ∧ cap ≤ maxLen) := Lib.hid (fun q x hx => ⟨g, rfl, HIN.out.1.keep (Upd.drewN [] wr nw) (by simp), HIN.out.2⟩)
        obtain ⟨W5, hW5⟩ : ∃ W, wr.drewN nw = W := ⟨_, rfl⟩
        rw [hW5] at e1' z1 HZ5 HB5 HR5 ⊢
        clear hW5 HZ HB HR e1 HPV
        go_wp2_with fail
        go_cut [62] (fun s wx => s = .bool false ∧ ∃ n, wx = W5.drewN n)
        case first =>
          cases is with
          | true =>
            have c5 : ¬ v1 < yp := by have := HLW.out rfl; omega
            clear HLW hv1
            go_quiet (fail)
            go_wp2_with fail
            go_meet
            exact ⟨rfl, _, rfl⟩
          | false =>
            clear hv1
            go_region
            all_goals go_wp2_with fail
            all_goals
              go_meet
              exact ⟨rfl, 1, rfl⟩
        case rest =>
          obtain ⟨rfl, nw2, rfl⟩ := hcut
          have HZ6 := Lib.hid (HZ5.out.drewN nw2)
          have HB6 := Lib.hid (HB5.out.trans ((Upd.drewN [] W5 nw2).below HB5.out.size (by simp)))
          have HR6 : Hid (∀ (q : Nat) (x : It), o[q]? = some x → ∃ g', (some ⟨g, 0, none⟩ : Option Addr) = some ⟨g', 0, none⟩ ∧ ItemsIn (W5.drewN nw2) g' o ∧ o.length ≤ cap ∧ cap ≤ maxLen) := Lib.hid (fun q x hx => by
            obtain ⟨g', h1, h2, h3⟩ := HR5.out q x hx
            exact ⟨g', h1, h2.keep (Upd.drewN [] W5 nw2) (by simp), h3⟩)
          clear HZ5 HB5 HR5
          go_wp2_with fail
          go_roundw
          case rel => exact ⟨q + 1, by omega, by go_num, HZ6, HB6, HR6⟩
          case measure => simp [intOf] <;> omega
    · obtain rfl : q = no := by omega
      have HB2 := HB
      obtain ⟨B, hB⟩ : ∃ B : Int, min (L : Int) (k : Int) = B := ⟨_, rfl⟩
      obtain ⟨C, hC⟩ : ∃ C : Int, min (L : Int) 20 = C := ⟨_, rfl⟩
      obtain ⟨D, hD⟩ : ∃ D : Int, clamp01 (k - C) = D := ⟨_, rfl⟩
      have hk20 : min (k : Int) 20 = k := by omega
      have hsum : B + D = (q : Int) := by
        have h1 := HNN.out
        have h2 := HN'.out
        rw [h1, h2, ← hD, ← hB, ← hC]
        unfold clamp01
        split <;> split <;> (try split) <;> omega
      have hC0 : 0 ≤ C ∧ C ≤ 20 := by omega
      obtain ⟨C0, C1⟩ := hC0
      have hD0 : 0 ≤ D ∧ D ≤ 1 := by rw [← hD]; unfold clamp01; split <;> (try split) <;> omega
      obtain ⟨D0, D1⟩ := hD0
      have hB0 : 0 ≤ B ∧ B ≤ 20 := by omega
      obtain ⟨B0, B1⟩ := hB0
      have CC := Lib.hid (fun w => clamp01_any (k - C) w)
      rw [hD] at CC
      clear hD hqn hq
      go_wp2_with fail
      refine (CC.out _).mono ?_
      rintro e w' ⟨rfl, rfl⟩
      go_wp2_with fail
      refine (lives_any _).mono ?_
      rintro e w9 ⟨rfl, hb9⟩
      have HB9 := Lib.hid hb9
      clear hb9
      go_wp2_with fail
      go_ret
      exact ⟨rfl, HB2.out.trans (HB9.out.mono HB2.out.size)⟩
end Go.Proofs.Ytapoikegoknlcaa
