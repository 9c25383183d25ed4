/- Layer 23: the walk of AdmitRow. -/
import Derived.Test.YtklbnldkfohkpaaGateI
import Derived.Deep.CutBlock
import Derived.Deep.DeepCutAuto
namespace Go.Proofs.Ytklbnldkfohkpaa
open Go.RowKit
set_option maxRecDepth 100000
def IdsOk (r : Nat → Row) : Prop := ∀ q z, z ∈ (r q).items → 0 ≤ z.id ∧ z.id ≤ 1000
theorem IdsOk.upd {r : Nat → Row} (h : IdsOk r) {p : Nat} {l : List It} (hl : ∀ z ∈ l, 0 ≤ z.id ∧ z.id ≤ 1000) (tk : Bool) (last : Int) : IdsOk (upd r p ⟨l, tk, last⟩) := by
  intro q z hz
  by_cases e : q = p
  · subst e; rw [upd_same] at hz; exact hl z hz
  · rw [upd_other _ _ e] at hz; exact h q z hz
theorem IdsOk.put {most n n' : Int} {r r' : Nat → Row} {p : Nat} {x y : It} {is : Bool} (h : IdsOk r) (hx : 0 ≤ x.id ∧ x.id ≤ 1000) (hi : PutIs most n r p x r' n' y is) : IdsOk r' := by
  have ha : IdsOk (addIt r p x) := h.upd (fun z hz => by
    rcases List.mem_append.1 hz with hz | hz
    · exact h _ _ hz
    · simp at hz; subst hz; exact hx) _ _
  cases hi with
  | room _ => exact ha
  | over _ _ _ hs =>
    cases hs with
    | some p i f x h1 h2 h3 h4 h5 h6 => exact ha.upd (fun z hz => ha _ _ (List.mem_of_mem_eraseIdx hz)) _ _
theorem IdsOk.take {r r' : Nat → Row} {x : It} {is : Bool} (h : IdsOk r) (ht : TakeIs r r' x is) : IdsOk r' ∧ (is = true → 0 ≤ x.id ∧ x.id ≤ 1000) := by
  cases ht with
  | none _ => exact ⟨h, fun h => by cases h⟩
  | some p i f x h1 h2 h3 h4 h5 h6 => exact ⟨h.upd (fun z hz => h _ _ (List.mem_of_mem_eraseIdx hz)) _ _, fun _ => h _ _ (List.mem_of_getElem? h4)⟩
/-- A gate that one may be under way at, and a queue put the same. -/
structure RowAt (w W : World) (gb b : Nat) (M n : Int) (r : Nat → Row) (l : Lim) (id : Int) (S : List Nat) : Prop where
  bes : Beside w.heap.size W gb ⟨M, n, r, l, [id]⟩ b M n r S
  st : Below w.heap.size w W
  ok : Gt.Ok ⟨M, n, r, l, [id]⟩
  one : l.high = 1
  le : n ≤ M
  m5 : M ≤ 5
  ids : IdsOk r
theorem RowAt.full {w W : World} {gb b : Nat} {M n : Int} {r : Nat → Row} {l : Lim} {id : Int} {S : List Nat} (h : RowAt w W gb b M n r l id S) : l.lim = 1 := by
  have h1 := h.one
  have h2 := h.ok.lim.l0
  have h3 := h.ok.lim.l1
  have h4 := h.ok.lim.l2
  dsimp only at h2 h3 h4
  omega
theorem put_le {most n n' : Int} {r r' : Nat → Row} {p : Nat} {x y : It} {is : Bool} (h : PutIs most n r p x r' n' y is) (hn : n ≤ most) : n' ≤ most := by
  cases h with
  | room h => exact h
  | over _ _ _ _ => exact hn
theorem RowAt.put {w W W' : World} {gb b : Nat} {M n n' : Int} {r r' : Nat → Row} {l : Lim} {id : Int} {S S' : List Nat} (h : RowAt w W gb b M n r l id S) {p : Nat} {x y : It} {is : Bool} (hp : p < 4) (hx : x.prio = (p : Int)) (hxi : 0 ≤ x.id ∧ x.id ≤ 1000) (hi : PutIs M n r p x r' n' y is)
    (hb : Beside w.heap.size W' gb ⟨M, n', r', l, [id]⟩ b M n' r' S') (hs : Below w.heap.size w W') : RowAt w W' gb b M n' r' l id S' :=
  ⟨hb, hs, ⟨h.ok.rows.put hp hx hi, by have := put_le hi h.le; have := h.ok.m1; dsimp only at *; omega, h.ok.m0, h.ok.m1, h.ok.lim, by simp⟩, h.one, put_le hi h.le, h.m5, h.ids.put hxi hi⟩
set_option maxHeartbeats 4000000 in
theorem row_walk (m0 : Int) (l : Value) (zs : List Int) (w : World) (hl : IntsIn w l zs) (hm1 : -9223372036854775808 ≤ m0) (hm2 : m0 ≤ 9223372036854775807) :
    Calls Try.prog 3 #[.int .i64 m0, l] w (TruePost w) := by
  have b0 := around_nonneg m0 6 (by omega)
  have b1 := around_lt m0 6 (by omega)
  have CB := Lib.hid (fun w => around_any m0 6 w hm1 hm2 (by omega))
  obtain ⟨M, hM⟩ : ∃ k : Nat, around m0 6 = (k : Int) := ⟨(around m0 6).toNat, by omega⟩
  rw [hM] at b0 b1 CB
  obtain ⟨a, cap, rfl, hln, hr, hcs⟩ := hl
  have HCS := Lib.hid hcs
  have HR := Lib.hid hr
  have hll : (zs.length : Int) ≤ 9223372036854775807 := by omega
  have CN := Lib.hid (newGate_any 1 1 (M : Int) w.heap.size w (Nat.le_refl _))
  clear hM hm1 hm2 hcs hr hln
  go_enter Try.func3, Try.ntmps3
  go_wp2_with fail
  refine (CB.out _).mono ?_
  rintro e w' ⟨rfl, rfl⟩
  go_wp2_with fail
  refine CN.out.mono ?_
  rintro e w1 ⟨gb, rfl, hg, hst, hgb⟩
  have HST := Lib.hid hst
  have CQ := Lib.hid (newQ_b (M : Int) w1 hg)
  clear hg hst hgb CN CB
  go_wp2_with fail
  refine CQ.out.mono ?_
  rintro e w2 ⟨rfl, hb, hst⟩
  have HST2 := Lib.hid (HST.out.trans hst)
  obtain ⟨b, hbe⟩ : ∃ b, w1.heap.size = b := ⟨_, rfl⟩
  rw [hbe] at hb ⊢
  have HB := Lib.hid hb
  have HLIM := Lib.hid (gLim_ok (show (1 : Int) ≤ 1 by omega) (show (1 : Int) ≤ 1 by omega) (show (1 : Int) ≤ 1000 by omega))
  have HOK : Hid (Gt.Ok (newGt 1 1 M)) := Lib.hid ⟨RowsOk.nil, by simp [newGt], by simp [newGt], by simp [newGt]; omega, HLIM.out, by simp [newGt]⟩
  have CE := Lib.hid (enter_b 0 ⟨100, 0, 0⟩ w2 HB.out HOK.out (by omega) rfl)
  unfold It.val at CE
  dsimp only at CE
  clear hb hst HST CQ hbe
  go_wp2_with fail
  refine CE.out.mono ?_
  rintro e w3 ⟨what, sh, is, g2, he, rfl, hb3, hst3⟩
  obtain ⟨rfl, rfl, rfl, rfl⟩ := enter_runs he (by simp [newGt, newLim])
  have HA0 : Hid (RowAt w (w3.alloc (.cells #[.int .i64 0, .int .i64 0, .int .i64 0] 29)) gb b M 0 (fun _ => ⟨[], false, 0⟩) (newLim 1 1) 100 []) := Lib.hid
    ⟨hb3.next (Upd.alloc [] w3 _), (HST2.out.trans (hst3.trans (hb3.step0 (Upd.alloc [] w3 _)))).below, ⟨HOK.out.rows, HOK.out.n1, HOK.out.m0, HOK.out.m1, HLIM.out, by simp⟩, rfl, by omega, by omega, fun q z hz => by cases hz⟩
  unfold zeroIt
  dsimp only
  clear he hb3 hst3 CE HB HOK HST2
  go_upto_block 0 with fail
  go_cut [11] (fun _ wx => ∃ (n : Int) (r : Nat → Row), Hid (RowAt w wx gb b M n r (newLim 1 1) 100 []))
  case first =>
    go_wp2_with fail
    go_loopw [11] (fun i wr => ∃ (j : Nat) (n : Int) (r : Nat → Row), j ≤ 20 ∧ j ≤ zs.length ∧ i = .int .i64 j ∧ Hid (RowAt w wr gb b M n r (newLim 1 1) 100 [])) (fun i _ => 20 - (intOf i).toNat)
    case atStart => exact ⟨0, 0, _, by omega, by omega, rfl, HA0⟩
    case round =>
      obtain ⟨j, n, r, hj20, hjn, rfl, HA⟩ := hrel
      clear HA0
      by_cases hl1 : j < zs.length
      · by_cases hl2 : j < 20
        · obtain ⟨z, hz⟩ : ∃ z, zs[j]? = some z := ⟨zs[j], by simp [hl1]⟩
          have hzr := HR.out z (List.mem_of_getElem? hz)
          obtain ⟨ab, off, rfl, hc0⟩ : ∃ b off, a = some ⟨b, off, none⟩ ∧ w.cell? ⟨b, off + j, none⟩ = some (.int .i64 z) := by
            rcases HCS.out with h | ⟨b, off, rfl, hc⟩
            · subst h; simp at hz
            · exact ⟨b, off, rfl, by rw [hc j hl1, List.getD, hz]; rfl⟩
          have hcell : wr.cell? ⟨ab, off + j, none⟩ = some (.int .i64 z) := (Upd.ofBelow HA.out.st).cell hc0 (by simp)
          have CA := Lib.hid (fun w => around_any z 1000 w hzr.1 hzr.2 (by omega))
          have v0 := around_nonneg z 1000 (by omega)
          have v1 := around_lt z 1000 (by omega)
          obtain ⟨v, hv⟩ : ∃ v : Nat, around z 1000 = (v : Int) := ⟨(around z 1000).toNat, by omega⟩
          rw [hv] at CA v0 v1
          have HJ := Lib.hid (And.intro hl1 hl2)
          have j0 : (0 : Int) ≤ j := by omega
          have hl1' : (j : Int) < zs.length := by omega
          have hl2' : (j : Int) < 20 := by omega
          have ew := IntWalk.i64_in ((1 : Int) + j) (by omega)
          clear hz hc0 hzr hv hl1 hl2
          go_wp2_with fail
          refine (CA.out _).mono ?_
          rintro e w' ⟨rfl, rfl⟩
          go_upto_region 14 with fail
          obtain ⟨d, hd⟩ : ∃ d : Int, 1 + (j : Int) = d := ⟨_, rfl⟩
          obtain ⟨p, hp⟩ : ∃ p : Nat, (v : Int) % 4 = (p : Int) := ⟨v % 4, by omega⟩
          obtain ⟨f, hf⟩ : ∃ f : Int, (v : Int) / 4 % 3 = f := ⟨_, rfl⟩
          have hp4 : p < 4 := by omega
          have HD : Hid (0 ≤ d ∧ d ≤ 1000) := Lib.hid (by omega)
          simp only [hd, hp, hf]
          have HX1 : Hid (BlockAt (wr.alloc (.cells #[.int .i64 d, .int .i64 p, .int .i64 f] 29)) wr.heap.size 29 [.int .i64 d, .int .i64 p, .int .i64 f]) := Lib.hid (BlockAt.new wr _ _)
          have HB1 := Lib.hid (HA.out.bes.alloc (.cells #[.int .i64 d, .int .i64 p, .int .i64 f] 29))
          have HS1 := Lib.hid (HA.out.st.trans (HA.out.bes.step0 (Upd.alloc [] wr (.cells #[.int .i64 d, .int .i64 p, .int .i64 f] 29))).below)
          obtain ⟨W1, hW1⟩ : ∃ W, wr.alloc (.cells #[.int .i64 d, .int .i64 p, .int .i64 f] 29) = W := ⟨_, rfl⟩
          obtain ⟨X, hX⟩ : ∃ X, wr.heap.size = X := ⟨_, rfl⟩
          rw [hW1, hX] at HX1 HB1
          rw [hW1] at HS1
          rw [hW1, hX]
          have x0 := HX1.out.cell 0 _ rfl
          have x1 := HX1.out.cell 1 _ rfl
          have x2 := HX1.out.cell 2 _ rfl
          have CE := Lib.hid (enter_b p ⟨d, p, f⟩ W1 HB1.out HA.out.ok hp4 rfl)
          unfold It.val at CE
          dsimp only at CE
          clear hcell hW1 hX hd hp hf CA
          go_wp2_with fail
          refine CE.out.mono ?_
          rintro e w4 ⟨what, sh, is, g2, he, rfl, hb4, hst4⟩
          have HE := Lib.hid he
          obtain ⟨si, sp, sf⟩ := sh
          have uz := Upd.alloc [] w4 (.cells #[.int .i64 si, .int .i64 sp, .int .i64 sf] 29)
          have HX5 := Lib.hid ((hst4.block (by simp) HX1.out).keep uz (by simp))
          have HZ5 : Hid (BlockAt (w4.alloc (.cells #[.int .i64 si, .int .i64 sp, .int .i64 sf] 29)) w4.heap.size 29 [.int .i64 si, .int .i64 sp, .int .i64 sf]) := Lib.hid (BlockAt.new w4 _ _)
          have HB5 := Lib.hid (hb4.alloc (.cells #[.int .i64 si, .int .i64 sp, .int .i64 sf] 29))
          have HS5 := Lib.hid (HS1.out.trans (hst4.trans (hb4.step0 uz)).below)
          dsimp only
          clear he hb4 hst4 uz x0 x1 x2 CE
          go_upto_region 15 with fail
          obtain ⟨W5, hW5⟩ : ∃ W, w4.alloc (.cells #[.int .i64 si, .int .i64 sp, .int .i64 sf] 29) = W := ⟨_, rfl⟩
          obtain ⟨Z, hZ⟩ : ∃ Z, w4.heap.size = Z := ⟨_, rfl⟩
          rw [hW5, hZ] at HZ5 HB5
          rw [hW5] at HX5 HS5
          rw [hW5, hZ]
          have x0 := HX5.out.cell 0 _ rfl
          have x1 := HX5.out.cell 1 _ rfl
          have x2 := HX5.out.cell 2 _ rfl
          have CP := Lib.hid (put_b p ⟨d, p, f⟩ W5 HB5.out HA.out.ok.rows hp4 rfl HA.out.ok.n1 HA.out.ok.m0 HA.out.ok.m1)
          unfold It.val at CP
          dsimp only at CP
          clear hW5 hZ
          go_wp2_with fail
          refine CP.out.mono ?_
          rintro e w6 ⟨r', n', y, has, hpi, rfl, hb6, hst6⟩
          obtain ⟨rfl, hh⟩ := row_enter HE.out hpi (by dsimp only; rw [HA.out.full]; simp)
          obtain ⟨yi, yp, yf⟩ := y
          have uy := Upd.alloc [] w6 (.cells #[.int .i64 yi, .int .i64 yp, .int .i64 yf] 29)
          have hx7 := (hst6.block (by simp) HX5.out).keep uy (by simp)
          have hz7 := (hst6.block (by simp) HZ5.out).keep uy (by simp)
          have HA7 : Hid (RowAt w (w6.alloc (.cells #[.int .i64 yi, .int .i64 yp, .int .i64 yf] 29)) gb b M n' r' (newLim 1 1) 100 []) := Lib.hid
            (HA.out.put hp4 rfl HD.out hpi ((hb6.next uy).sub (by simp)) (HS5.out.trans (hst6.trans (hb6.step0 uy)).below))
          have y0 := (BlockAt.new w6 29 [.int .i64 yi, .int .i64 yp, .int .i64 yf]).cell 0 _ rfl
          have y1 := (BlockAt.new w6 29 [.int .i64 yi, .int .i64 yp, .int .i64 yf]).cell 1 _ rfl
          have y2 := (BlockAt.new w6 29 [.int .i64 yi, .int .i64 yp, .int .i64 yf]).cell 2 _ rfl
          dsimp only at hh ⊢
          clear hpi hb6 hst6 uy x0 x1 x2 CP HE HB5 HS5 HZ5 HX5 HB1 HS1 HX1 HA
          go_upto_region 16 with fail
          obtain ⟨W7, hW7⟩ : ∃ W, w6.alloc (.cells #[.int .i64 yi, .int .i64 yp, .int .i64 yf] 29) = W := ⟨_, rfl⟩
          obtain ⟨Y, hY⟩ : ∃ Y, w6.heap.size = Y := ⟨_, rfl⟩
          have e7 : w6.alloc (.cells [.int .i64 yi, .int .i64 yp, .int .i64 yf].toArray 29) = W7 := hW7
          rw [e7, hY] at y0 y1 y2
          rw [hW7] at hx7 hz7 HA7
          rw [hW7, hY]
          have x0 := hx7.cell 0 _ rfl
          have z0 := hz7.cell 0 _ rfl
          have z1 := hz7.cell 1 _ rfl
          have z2 := hz7.cell 2 _ rfl
          clear hW7 hY e7 hx7 hz7
          rcases hh with ⟨rfl, rfl, rfl, rfl⟩ | ⟨hne, rfl, rfl, hsh⟩
          · go_wp2_with fail
            go_roundw
            case rel => exact ⟨j + 1, n', r', by have := HJ.out; omega, by have := HJ.out; omega, by go_num, HA7⟩
            case measure => have := HJ.out; simp [intOf] <;> omega
          · cases hsh
            cases is with
            | false =>
              clear hne
              go_wp2_with fail
              go_roundw
              case rel => exact ⟨j + 1, n', r', by have := HJ.out; omega, by have := HJ.out; omega, by go_num, HA7⟩
              case measure => have := HJ.out; simp [intOf] <;> omega
            | true =>
              have hne' : ¬ si = d := hne rfl
              clear hne
              go_wp2_with fail
              go_roundw
              case rel => exact ⟨j + 1, n', r', by have := HJ.out; omega, by have := HJ.out; omega, by go_num, HA7⟩
              case measure => have := HJ.out; simp [intOf] <;> omega
        · obtain rfl : j = 20 := by omega
          have hl1' : ((20 : Nat) : Int) < zs.length := by omega
          go_wp2_with fail
          go_meet
          exact ⟨n, r, HA⟩
      · obtain rfl : j = zs.length := by omega
        go_wp2_with fail
        go_meet
        exact ⟨n, r, HA⟩
  case rest =>
    obtain ⟨n, r, HA⟩ := hcut
    clear HA0
    have hn5 : n ≤ 5 := Int.le_trans HA.out.le HA.out.m5
    go_wp2_with fail
    go_loopw [19, 20] (fun idv iv wr => ∃ (i : Nat) (n : Int) (r : Nat → Row) (lm : Lim) (id : Int), idv = .int .i64 id ∧ iv = .int .i64 i ∧ n + i ≤ 5 ∧ Hid (RowAt w wr gb b M n r lm id [])) (fun _ iv _ => 25 - (intOf iv).toNat)
    case atStart => exact ⟨0, n, r, newLim 1 1, 100, rfl, rfl, by omega, HA⟩
    case round =>
      clear HA hn5
      obtain ⟨i, n, r, lm, id, rfl, rfl, hni, HA⟩ := hrel
      have n0 : 0 ≤ n := HA.out.ok.n0
      have HNI := Lib.hid (And.intro hni n0)
      have i0 : (0 : Int) ≤ i := by omega
      have i25 : (i : Int) < 25 := by omega
      have CT := Lib.hid (take_b wr HA.out.bes HA.out.ok.rows HA.out.ok.n1)
      clear hni n0
      go_wp2_with fail
      refine CT.out.mono ?_
      rintro e w4 ⟨r', x, is, ht, rfl, hb4, hst4⟩
      have HT := Lib.hid ht
      obtain ⟨xi, xp, xf⟩ := x
      have ux := Upd.alloc [] w4 (.cells #[.int .i64 xi, .int .i64 xp, .int .i64 xf] 29)
      have HX5 : Hid (BlockAt (w4.alloc (.cells #[.int .i64 xi, .int .i64 xp, .int .i64 xf] 29)) w4.heap.size 29 [.int .i64 xi, .int .i64 xp, .int .i64 xf]) := Lib.hid (BlockAt.new w4 _ _)
      have HB5 := Lib.hid (hb4.alloc (.cells #[.int .i64 xi, .int .i64 xp, .int .i64 xf] 29))
      have HS5 := Lib.hid (HA.out.st.trans (hst4.trans (hb4.step0 ux)).below)
      unfold It.val
      dsimp only
      clear ht hb4 hst4 ux CT
      go_upto_region 26 with fail
      obtain ⟨W5, hW5⟩ : ∃ W, w4.alloc (.cells #[.int .i64 xi, .int .i64 xp, .int .i64 xf] 29) = W := ⟨_, rfl⟩
      obtain ⟨X, hX⟩ : ∃ X, w4.heap.size = X := ⟨_, rfl⟩
      rw [hW5, hX] at HX5 HB5
      rw [hW5] at HS5
      rw [hW5, hX]
      have CD := Lib.hid (done_b (i : Int) id 1 true W5 HB5.out HA.out.ok i0 (by omega) (by omega) (by omega))
      clear hW5 hX
      go_wp2_with fail
      refine CD.out.mono ?_
      rintro e w6 ⟨ids, v, g', hd, rfl, hi, hb6, hst6⟩
      have hnr : NextRun ⟨M, n, r, lm.done i 1 1 true, []⟩ ids g' := by
        cases hd with
        | no h => simp at h
        | yes _ _ h hr => simpa using hr
      obtain ⟨l1, l2, l3⟩ := limOne HA.out.ok.lim HA.out.one i 1 1 true i0 (by omega) (by omega) (by omega)
      have HX6 := Lib.hid (hst6.block (by simp) HX5.out)
      have HB6 := Lib.hid (HS5.out.trans hst6.below)
      rcases row_take hnr l3 HT.out with ⟨rfl, rfl, rfl⟩ | ⟨rfl, rfl, rfl⟩
      · obtain ⟨ao, cap6, rfl⟩ := own_len hi
        have CU := Lib.hid (under_b w6 hb6)
        dsimp only [List.length_nil] at CU
        clear hd hi hb6 hst6 hnr l1 l2 l3 CD HX5 HB5 HS5 HT HA
        go_wp2_with fail
        refine CU.out.mono ?_
        rintro e w7 ⟨rfl, rfl⟩
        clear CU
        go_wp2_with fail
        refine (lives_any _).mono ?_
        rintro e w9 ⟨rfl, hb9⟩
        have HB9 := Lib.hid hb9
        clear hb9
        go_wp2_with fail
        go_ret
        exact ⟨rfl, HB6.out.trans (HB9.out.mono HB6.out.size)⟩
      · obtain ⟨hids, hxi⟩ := HA.out.ids.take HT.out
        have hxi := hxi rfl
        dsimp only at hxi
        have hrx : ∀ z ∈ [xi], (-9223372036854775808 : Int) ≤ z ∧ z ≤ 9223372036854775807 := by simp; omega
        have hin := OwnInts.isIn hi hrx
        have ua := Upd.alloc [] w6 (.cells #[.int .i64 xi] 3)
        have CS := Lib.hid (sameInts_any v (.slice (some ⟨w6.heap.size, 0, none⟩) 1 1) [xi] (w6.alloc (.cells #[.int .i64 xi] 3)) (hin.keep ua (by simp)) ⟨_, 1, rfl, by simp, hrx, .inr ⟨w6.heap.size, 0, rfl, fun j hj => by
          have : j = 0 := by simp at hj; omega
          subst this
          exact (BlockAt.new w6 3 [.int .i64 xi]).cell 0 _ rfl⟩⟩ (by simp))
        have HA7 : Hid (∀ W, Upd [] w6 W → RowAt w W gb b M (n - 1) r' (lm.done i 1 1 true) xi []) := Lib.hid (fun W hu => by
          have hr' := HA.out.ok.rows.take HT.out
          simp only [if_true] at hr'
          have hb7 := (hb6.sub (S' := []) (by simp)).next hu
          exact ⟨by simpa using hb7, HB6.out.trans (hb6.step0 hu).below, ⟨hr', by have := HA.out.ok.n1; dsimp only at this ⊢; omega, HA.out.ok.m0, HA.out.ok.m1, l1, by simp⟩, l2, by have := HA.out.le; omega, HA.out.m5, hids⟩)
        have HUA := Lib.hid ua
        have hxu := HX6.out.keep ua (by simp)
        have HXU := Lib.hid hxu
        clear hd hi hb6 hst6 hnr l1 l2 l3 CD HX5 HB5 HS5 HT hids hxi hrx hin ua hxu
        have x0 := HX6.out.cell 0 _ rfl
        go_wp2_with fail
        refine CS.out.mono ?_
        rintro e w7 ⟨rfl, hu7⟩
        have HA8 := Lib.hid (HA7.out w7 (HUA.out.trans hu7))
        have y0 := (HXU.out.keep hu7 (by simp)).cell 0 _ rfl
        clear x0 HA7 HA CS hu7
        go_wp2_with fail
        go_roundw
        case rel => exact ⟨i + 1, n - 1, r', _, xi, rfl, by go_num, by have := HNI.out; omega, HA8⟩
        case measure => have := HNI.out; simp [intOf] <;> omega
end Go.Proofs.Ytklbnldkfohkpaa
