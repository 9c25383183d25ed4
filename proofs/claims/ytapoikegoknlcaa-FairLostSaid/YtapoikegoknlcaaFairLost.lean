/- Layer 22: none is lost; the walk of FairLost. -/
import Derived.Test.YtapoikegoknlcaaFairW
import Derived.Deep.CutBlock
import Derived.Deep.DeepCutAuto
namespace Go.Proofs.Ytapoikegoknlcaa
open Go.RowKit
theorem make40 (w : World) : (Instr.makeSlice 22 (.int .i64 40) (.int .i64 40)).run Try.prog w = .ok (.slice (some ⟨w.heap.size, 0, none⟩) 40 40) (w.alloc (.cells (((List.replicate 40 (0 : Int)).map (Value.int .i64)).toArray) 3)) := by kernel_rfl
set_option maxRecDepth 100000 in
set_option maxHeartbeats 8000000 in
theorem lost_walk (m0 : Int) (l : Value) (zs : List Int) (w : World) (hl : IntsIn w l zs) (hm1 : -9223372036854775808 ≤ m0) (hm2 : m0 ≤ 9223372036854775807) :
    Calls Try.prog 9 #[.int .i64 m0, l] w (TruePost w) := by
  have b0 := around_nonneg m0 9 (by omega)
  have b1 := around_lt m0 9 (by omega)
  have CB := Lib.hid (fun w => around_any m0 9 w hm1 hm2 (by omega))
  obtain ⟨k, hk⟩ : ∃ k : Nat, around m0 9 = (k : Int) := ⟨(around m0 9).toNat, by omega⟩
  rw [hk] at b0 b1 CB
  obtain ⟨a, cap, rfl, hln, hr, hcs⟩ := hl
  have HCS := Lib.hid hcs
  have HR := Lib.hid hr
  have hll : (zs.length : Int) ≤ 9223372036854775807 := by omega
  have CN := Lib.hid (newQ_qs (k : Int) w.heap.size [] w (Nat.le_refl _) (by simp))
  clear hk hm1 hm2 hcs hr hln
  go_enter Try.func9, Try.ntmps9
  go_wp2_with fail
  refine (CB.out _).mono ?_
  rintro e w' ⟨rfl, rfl⟩
  go_wp2_with fail
  refine CN.out.mono ?_
  rintro e w1 ⟨rfl, hq, hst⟩
  obtain ⟨b, hbe⟩ : ∃ b, w.heap.size = b := ⟨_, rfl⟩
  have HQ1 : Hid (QS w.heap.size w1 b k 0 (fun _ => ⟨[], false, 0⟩) [] ∧ QStep w.heap.size [] w w1) := Lib.hid ⟨by rw [← hbe]; exact hq, hst⟩
  rw [hbe]
  clear hq hst hbe CN CB
  have HS1 : Hid (LS w (w1.alloc (.cells (((List.replicate 40 (0 : Int)).map (Value.int .i64)).toArray) 3)) b w1.heap.size k 0 (fun _ => ⟨[], false, 0⟩) (List.replicate 40 0) []) := Lib.hid
    ⟨HQ1.out.1.alloc _, HQ1.out.2.below.alloc HQ1.out.2.size _, BlockAt.new w1 _ _, HQ1.out.2.size⟩
  have HI1 := Lib.hid LI.start
  have hmk := make40 w1
  clear HQ1
  obtain ⟨W1, hW1⟩ : ∃ W, w1.alloc (.cells (((List.replicate 40 (0 : Int)).map (Value.int .i64)).toArray) 3) = W := ⟨_, rfl⟩
  obtain ⟨g, hg⟩ : ∃ g, w1.heap.size = g := ⟨_, rfl⟩
  rw [hW1, hg] at HS1 hmk
  clear hW1 hg
  go_upto_block 0 with fail
  clear hmk
  go_cut [7] (fun pt wx => ∃ (r : Nat → Row) (n : Int) (G : List Int), pt = .int .i64 n ∧ Hid (LS w wx b g k n r G []) ∧ Hid (LI r n 40 G ∧ 0 ≤ n ∧ n ≤ k))
  case first =>
    go_wp2_with fail
    go_loopw [7, 9] (fun pt i wr => ∃ (j : Nat) (r : Nat → Row) (n : Int) (G : List Int), i = .int .i64 j ∧ j ≤ 40 ∧ j ≤ zs.length ∧ pt = .int .i64 n ∧ Hid (LS w wr b g k n r G []) ∧ Hid (LI r n j G ∧ 0 ≤ n ∧ n ≤ k)) (fun _ i _ => 40 - (intOf i).toNat)
    case atStart => exact ⟨0, _, 0, _, rfl, by omega, by omega, rfl, HS1, Lib.hid ⟨HI1.out, by omega, by omega⟩⟩
    case round =>
      obtain ⟨j, r, n, G, rfl, hj40, hjn, rfl, HS, HI⟩ := hrel
      clear HS1 HI1
      by_cases hl1 : j < zs.length
      · by_cases hl2 : j < 40
        · obtain ⟨z, hz⟩ : ∃ z, zs[j]? = some z := ⟨zs[j], by simp [hl1]⟩
          have hzr := HR.out z (List.mem_of_getElem? hz)
          obtain ⟨ab, off, rfl, hc0⟩ : ∃ b off, a = some ⟨b, off, none⟩ ∧ w.cell? ⟨b, off + j, none⟩ = some (.int .i64 z) := by
            rcases HCS.out with h | ⟨b, off, rfl, hc⟩
            · subst h; simp at hz
            · exact ⟨b, off, rfl, by rw [hc j hl1, List.getD, hz]; rfl⟩
          have hcell : wr.cell? ⟨ab, off + j, none⟩ = some (.int .i64 z) := (Upd.ofBelow HS.out.st).cell hc0 (by simp)
          have CA := Lib.hid (fun w => around_any z 1000000 w hzr.1 hzr.2 (by omega))
          have v0 := around_nonneg z 1000000 (by omega)
          have v1 := around_lt z 1000000 (by omega)
          obtain ⟨v, hv⟩ : ∃ v : Nat, around z 1000000 = (v : Int) := ⟨(around z 1000000).toNat, by omega⟩
          rw [hv] at CA v0 v1
          have HJ := Lib.hid (And.intro hl1 hl2)
          have j0 : (0 : Int) ≤ j := by omega
          have hl1' : (j : Int) < zs.length := by omega
          have hl2' : (j : Int) < 40 := by omega
          clear hz hc0 hzr hv hl1 hl2
          go_wp2_with fail
          refine (CA.out _).mono ?_
          rintro e w' ⟨rfl, rfl⟩
          have HX1 : Hid (BlockAt (wr.alloc (.cells #[.int .i64 (-1), .int .i64 0, .int .i64 0] 27)) wr.heap.size 27 [.int .i64 (-1), .int .i64 0, .int .i64 0]) := Lib.hid (BlockAt.new wr _ _)
          have HS2 : Hid (LS w (wr.alloc (.cells #[.int .i64 (-1), .int .i64 0, .int .i64 0] 27)) b g k n r G [wr.heap.size]) := Lib.hid (HS.out.new _)
          have HXG := Lib.hid (show wr.heap.size ≠ g ∧ w.heap.size ≤ wr.heap.size ∧ wr.heap.size ≠ b from ⟨Nat.ne_of_gt (HS.out.q.lt g (by simp)), HS.out.st.size, Nat.ne_of_gt HS.out.q.blk_lt.1⟩)
          go_upto_region 13 with fail
          obtain ⟨W2, hW2⟩ : ∃ W, wr.alloc (.cells #[.int .i64 (-1), .int .i64 0, .int .i64 0] 27) = W := ⟨_, rfl⟩
          obtain ⟨X, hX⟩ : ∃ X, wr.heap.size = X := ⟨_, rfl⟩
          rw [hW2, hX] at HX1 HS2
          rw [hX] at HXG
          rw [hW2, hX]
          clear hW2 hX HS hcell CA
          have hj1 : j + 1 ≤ 40 := by have := HJ.out; omega
          have HG40 := Lib.hid HI.out.1.len
          go_upto_block 2 with fail
          go_cut [7, 12, 39] (fun pt iv _ wx => ∃ (r' : Nat → Row) (n' : Int) (G' : List Int) (x : It) (is : Bool), iv = .bool is ∧ pt = .int .i64 (if is then n' + 1 else n') ∧ Hid (LS w wx b g k n' r' G' [X]) ∧ Hid (BlockAt wx X 27 [.int .i64 x.id, .int .i64 x.prio, .int .i64 x.flow]) ∧ Hid (0 ≤ n' ∧ n' ≤ k ∧ G'.length = 40 ∧ (is = true → ∃ jj : Nat, x.id = (jj : Int) ∧ jj < 40 ∧ G'.getD jj 0 = 1 ∧ LI r' n' (j + 1) (G'.set jj 2)) ∧ (is = false → LI r' n' (j + 1) G')))
          case first =>
            have x0 := HX1.out.cell 0 _ rfl
            have x1 := HX1.out.cell 1 _ rfl
            have x2 := HX1.out.cell 2 _ rfl
            have xf0 := HX1.out.free 0
            have xf1 := HX1.out.free 1
            have xf2 := HX1.out.free 2
            by_cases h0 : (v : Int) % 5 = 0
            · have CT := Lib.hid (take_qs w.heap.size b k n r [g, X] W2 HS2.out.q (by have := HI.out.2; omega) (by have := HI.out.2; omega) (fun q hq => by have := HI.out.1.ok.row hq; have := HI.out.2; omega) (fun q hq hne => HI.out.1.ok.ne hq hne))
              go_wp2_with fail
              refine CT.out.mono ?_
              rintro e w5 ⟨r', x, is, ht, rfl, hq5, hst5⟩
              have hn' : (if is = true then n - 1 else n) = (if is = true then n - 1 else n) := rfl
              have HMI : Hid (0 ≤ (if is = true then n - 1 else n) ∧ (if is = true then n - 1 else n) ≤ k ∧ G.length = 40 ∧ (is = true → ∃ jj : Nat, x.id = (jj : Int) ∧ jj < 40 ∧ G.getD jj 0 = 1 ∧ LI r' (if is = true then n - 1 else n) (j + 1) (G.set jj 2)) ∧ (is = false → LI r' (if is = true then n - 1 else n) (j + 1) G)) := Lib.hid (by
                have h1 := HI.out.1
                have h2 := HI.out.2
                cases is with
                | true =>
                  have hok : RowsOk r' (n - 1) := by simpa using h1.ok.take ht
                  obtain ⟨jj, e1, e2, e3, e4⟩ := (h1.mono (Nat.le_succ j)).less hj1 (take_less ht) hok
                  refine ⟨?_, ?_, h1.len, fun _ => ⟨jj, e1, e2, e3, by simpa using e4⟩, fun h => (by cases h)⟩
                  · have := hok.tot; simp; omega
                  · simp; omega
                | false =>
                  obtain rfl := take_same ht
                  exact ⟨by simpa using h2.1, by simpa using h2.2, h1.len, fun h => (by cases h), fun _ => by simpa using h1.mono (Nat.le_succ j)⟩)
              have HS5 := Lib.hid (HS2.out.step hq5 hst5)
              have hx5 := hst5.block (by simp) HX1.out
              have y0 := hx5.cell 0 _ rfl
              have y1 := hx5.cell 1 _ rfl
              have y2 := hx5.cell 2 _ rfl
              have yf0 := hx5.free 0
              have yf1 := hx5.free 1
              have yf2 := hx5.free 2
              have HP : Hid ((if is = true then (if is = true then n - 1 else n) + 1 else (if is = true then n - 1 else n)) = n) := Lib.hid (by cases is <;> simp)
              obtain ⟨n', hnn⟩ : ∃ m, (if is = true then n - 1 else n) = m := ⟨_, rfl⟩
              rw [hnn] at HMI HS5 HP
              obtain ⟨xi, xp, xf⟩ := x
              unfold It.val
              dsimp only at HMI ⊢
              have HX6 : Hid (BlockAt (((w5.setCell ⟨X, 0, none⟩ (.int .i64 xi)).setCell ⟨X, 1, none⟩ (.int .i64 xp)).setCell ⟨X, 2, none⟩ (.int .i64 xf)) X 27 [.int .i64 xi, .int .i64 xp, .int .i64 xf]) := Lib.hid (((hx5.set 0 _).set 1 _).set 2 _)
              have HS6 : Hid (LS w (((w5.setCell ⟨X, 0, none⟩ (.int .i64 xi)).setCell ⟨X, 1, none⟩ (.int .i64 xp)).setCell ⟨X, 2, none⟩ (.int .i64 xf)) b g k n' r' G [X]) := Lib.hid (HS5.out.other (by simp) (((Upd.setCell' _ _ _ (by simp)).trans (Upd.setCell' _ _ _ (by simp))).trans (Upd.setCell' _ _ _ (by simp))) HXG.out.1 HXG.out.2.1)
              clear ht hq5 hst5 hn' hnn hx5 CT x0 x1 x2 xf0 xf1 xf2
              go_wp2_with fail
              go_meet
              exact ⟨r', n', G, ⟨xi, xp, xf⟩, is, rfl, by rw [HP.out], HS6, HX6, HMI⟩
            · by_cases h1 : (v : Int) % 5 = 1
              · have d0 : (0 : Int) ≤ (v : Int) / 8 % 40 := by omega
                have d1 : (v : Int) / 8 % 40 < 40 := by omega
                obtain ⟨d, hd⟩ : ∃ d : Nat, (v : Int) / 8 % 40 = (d : Int) := ⟨((v : Int) / 8 % 40).toNat, by omega⟩
                have HX3 : Hid (BlockAt (W2.setCell ⟨X, 0, none⟩ (.int .i64 (d : Int))) X 27 [.int .i64 (d : Int), .int .i64 0, .int .i64 0]) := Lib.hid (HX1.out.set 0 _)
                have HS3 : Hid (LS w (W2.setCell ⟨X, 0, none⟩ (.int .i64 (d : Int))) b g k n r G [X]) := Lib.hid (HS2.out.other (by simp) (Upd.setCell' _ _ _ (by simp)) HXG.out.1 HXG.out.2.1)
                have CT := Lib.hid (drop_qs w.heap.size b k n r [g, X] (d : Int) _ HS3.out.q (by have := HI.out.2; omega) (by have := HI.out.2; omega) (fun q hq => by have := HI.out.1.ok.row hq; have := HI.out.2; omega) (fun q hq hne => HI.out.1.ok.ne hq hne))
                have z0 := HX3.out.cell 0 _ rfl
                go_wp2_with fail
                refine CT.out.mono ?_
                rintro e w5 ⟨r', is, ht, rfl, hq5, hst5⟩
                have HMI : Hid (0 ≤ (if is = true then n - 1 else n) ∧ (if is = true then n - 1 else n) ≤ k ∧ G.length = 40 ∧ (is = true → ∃ jj : Nat, (⟨(d : Int), 0, 0⟩ : It).id = (jj : Int) ∧ jj < 40 ∧ G.getD jj 0 = 1 ∧ LI r' (if is = true then n - 1 else n) (j + 1) (G.set jj 2)) ∧ (is = false → LI r' (if is = true then n - 1 else n) (j + 1) G)) := Lib.hid (by
                  have h1 := HI.out.1
                  have h2 := HI.out.2
                  cases is with
                  | true =>
                    have hok : RowsOk r' (n - 1) := by simpa using h1.ok.drop ht
                    obtain ⟨jj, e1, e2, e3, e4⟩ := (h1.mono (Nat.le_succ j)).less hj1 (drop_less ht ⟨(d : Int), 0, 0⟩ rfl) hok
                    refine ⟨?_, ?_, h1.len, fun _ => ⟨jj, e1, e2, e3, by simpa using e4⟩, fun h => (by cases h)⟩
                    · have := hok.tot; simp; omega
                    · simp; omega
                  | false =>
                    obtain rfl := drop_same ht
                    exact ⟨by simpa using h2.1, by simpa using h2.2, h1.len, fun h => (by cases h), fun _ => by simpa using h1.mono (Nat.le_succ j)⟩)
                have HS5 := Lib.hid (HS3.out.step hq5 hst5)
                have HX5 := Lib.hid (hst5.block (by simp) HX3.out)
                have HP : Hid ((if is = true then (if is = true then n - 1 else n) + 1 else (if is = true then n - 1 else n)) = n) := Lib.hid (by cases is <;> simp)
                obtain ⟨n', hnn⟩ : ∃ m, (if is = true then n - 1 else n) = m := ⟨_, rfl⟩
                rw [hnn] at HMI HS5 HP
                clear ht hq5 hst5 hnn CT x0 x1 x2 xf0 xf1 xf2 z0 HX3 HS3
                go_wp2_with fail
                go_meet
                exact ⟨r', n', G, ⟨(d : Int), 0, 0⟩, is, rfl, by rw [HP.out], HS5, HX5, HMI⟩
              · have hj40' : j < 40 := HJ.out.2
                have hg0 := HS2.out.ints.cell (j := j) (by rw [HG40.out]; exact hj40')
                have hgf : W2.frozen? ⟨g, j, none⟩ = false := BlockAt.free HS2.out.ints j
                have HS3 : Hid (LS w (W2.setCell ⟨g, j, none⟩ (.int .i64 1)) b g k n r (G.set j 1) [X]) := Lib.hid (HS2.out.set j 1)
                have HX3 : Hid (BlockAt (W2.setCell ⟨g, j, none⟩ (.int .i64 1)) X 27 [.int .i64 (-1), .int .i64 0, .int .i64 0]) := Lib.hid (HX1.out.setOther (fun e => HXG.out.1 e.symm) _)
                obtain ⟨v8, hv8⟩ : ∃ d, (v : Int) / 8 = d := ⟨_, rfl⟩
                have v80 : 0 ≤ v8 := by omega
                have v81 : v8 < 1000000 := by omega
                have CI := Lib.hid (fun w => item_any v8 j w (by omega) (by omega))
                obtain ⟨p, hp, hpx⟩ := mkIt_prio v8 j
                obtain ⟨y, hy⟩ : ∃ x, mkIt v8 j = x := ⟨_, rfl⟩
                have hyid : y.id = (j : Int) := by rw [← hy]; rfl
                rw [show (⟨(j : Int), around v8 100000 % 4, around v8 100000 / 4 % 5⟩ : It) = y from hy] at CI
                rw [hy] at hpx
                have HY := Lib.hid (And.intro hp (And.intro hpx hyid))
                have n0 := HI.out.2.1
                have n1 : n ≤ 100 := by have := HI.out.2.2; omega
                obtain ⟨gj, hgj⟩ : ∃ v, G.getD j 0 = v := ⟨_, rfl⟩
                rw [hgj] at hg0
                clear hgj
                have HV8 := Lib.hid hv8
                have e0 : ((v : Int) % 5 == 0) = false := by rw [beq_eq_false_iff_ne]; exact h0
                have e1 : ((v : Int) % 5 == 1) = false := by rw [beq_eq_false_iff_ne]; exact h1
                clear hp hpx hy hyid hj40' hv8 v80 v81 h0 h1
                go_wp2_with fail
                rw [HV8.out]
                refine (CI.out _).mono ?_
                rintro e w3 ⟨rfl, hb3⟩
                have HS4 := Lib.hid (HS3.out.next (Upd.ofBelow hb3))
                have HX4 := Lib.hid (HX3.out.keep (Upd.ofBelow hb3) (by simp))
                have CP := Lib.hid (put_qs w.heap.size b k n r [g, X] p y w3 HS4.out.q HY.out.1 HY.out.2.1 (by omega) (by omega) (fun q hq => by have := HI.out.1.ok.row hq; omega) (by omega) (by omega))
                clear hb3 CI HS3 HX3 hg0 hgf x0 x1 x2 xf0 xf1 xf2
                go_wp2_with fail
                refine CP.out.mono ?_
                rintro e w5 ⟨r', n', x, is, hput, rfl, hq5, hst5⟩
                have HMI : Hid (0 ≤ n' ∧ n' ≤ k ∧ (G.set j 1).length = 40 ∧ (is = true → ∃ jj : Nat, x.id = (jj : Int) ∧ jj < 40 ∧ (G.set j 1).getD jj 0 = 1 ∧ LI r' n' (j + 1) ((G.set j 1).set jj 2)) ∧ (is = false → LI r' n' (j + 1) (G.set j 1))) := Lib.hid (by
                  have h1 := HI.out.1
                  have h2 := HI.out.2
                  have hmore := h1.more HJ.out.2 HY.out.1 HY.out.2.1 HY.out.2.2
                  cases hput with
                  | room hr => exact ⟨by omega, by omega, hmore.len, fun h => (by cases h), fun _ => hmore⟩
                  | over r' y ho hs =>
                    obtain ⟨jj, e1, e2, e3, e4⟩ := hmore.less hj1 (shed_less hs) ((hmore.ok.shed hs).1)
                    exact ⟨by omega, by omega, hmore.len, fun _ => ⟨jj, e1, e2, e3, by simpa using e4⟩, fun h => (by cases h)⟩)
                have HP : Hid ((if is = true then n' + 1 else n') = n + 1) := Lib.hid (by
                  cases hput with
                  | room hr => rfl
                  | over r' y ho hs => rfl)
                have HS5 := Lib.hid (HS4.out.step hq5 hst5)
                have hx5 := hst5.block (by simp) HX4.out
                have y0 := hx5.cell 0 _ rfl
                have y1 := hx5.cell 1 _ rfl
                have y2 := hx5.cell 2 _ rfl
                have yf0 := hx5.free 0
                have yf1 := hx5.free 1
                have yf2 := hx5.free 2
                obtain ⟨xi, xp, xf⟩ := x
                unfold It.val
                dsimp only at HMI ⊢
                have HX6 : Hid (BlockAt (((w5.setCell ⟨X, 0, none⟩ (.int .i64 xi)).setCell ⟨X, 1, none⟩ (.int .i64 xp)).setCell ⟨X, 2, none⟩ (.int .i64 xf)) X 27 [.int .i64 xi, .int .i64 xp, .int .i64 xf]) := Lib.hid (((hx5.set 0 _).set 1 _).set 2 _)
                have HS6 : Hid (LS w (((w5.setCell ⟨X, 0, none⟩ (.int .i64 xi)).setCell ⟨X, 1, none⟩ (.int .i64 xp)).setCell ⟨X, 2, none⟩ (.int .i64 xf)) b g k n' r' (G.set j 1) [X]) := Lib.hid (HS5.out.other (by simp) (((Upd.setCell' _ _ _ (by simp)).trans (Upd.setCell' _ _ _ (by simp))).trans (Upd.setCell' _ _ _ (by simp))) HXG.out.1 HXG.out.2.1)
                clear hput hq5 hst5 hx5 CP
                go_wp2_with fail
                go_meet
                exact ⟨r', n', G.set j 1, ⟨xi, xp, xf⟩, is, rfl, by rw [HP.out], HS6, HX6, HMI⟩
          case rest =>
            obtain ⟨r', n', G', x, is, rfl, rfl, HS6, HX6, HMI⟩ := hcut
            clear HS2 HX1 HI
            obtain ⟨n0, n1, -⟩ := HMI.out
            have n3 : n' ≤ 100 := by omega
            have d2 : decide ((k : Int) < n') = false := by simp; omega
            have N1 := Lib.hid n1
            clear n1
            cases is with
            | false =>
              have HL6 := Lib.hid (HMI.out.2.2.2.2 rfl)
              have CL := Lib.hid (len_qs w.heap.size b k n' r' _ wc HS6.out.q)
              go_wp2_with fail
              refine CL.out.mono ?_
              rintro e w7 ⟨rfl, rfl⟩
              have HS7 := Lib.hid HS6.out.drop
              have HI7 : Hid (LI r' n' (j + 1) G' ∧ 0 ≤ n' ∧ n' ≤ k) := Lib.hid ⟨HL6.out, n0, N1.out⟩
              clear CL HS6 HX6 HMI
              go_wp2_with fail
              go_roundw
              case rel => exact ⟨j + 1, r', n', G', by go_num, hj1, by have := HJ.out; omega, rfl, HS7, HI7⟩
              case measure => simp [intOf] <;> omega
            | true =>
              obtain ⟨jj, hxj, hj4, hone, hli⟩ := HMI.out.2.2.2.1 rfl
              have c0 := HX6.out.cell 0 _ rfl
              rw [hxj] at c0
              have hgl := HMI.out.2.2.1
              have g0 := HS6.out.ints.cell (j := jj) (by rw [hgl]; exact hj4)
              rw [hone] at g0
              have gf : wc.frozen? ⟨g, jj, none⟩ = false := BlockAt.free HS6.out.ints jj
              have jj0 : (0 : Int) ≤ jj := by omega
              have jj1 : (jj : Int) < 40 := by omega
              have HS7 : Hid (LS w (wc.setCell ⟨g, jj, none⟩ (.int .i64 2)) b g k n' r' (G'.set jj 2) [X]) := Lib.hid (HS6.out.set jj 2)
              have HI7 : Hid (LI r' n' (j + 1) (G'.set jj 2) ∧ 0 ≤ n' ∧ n' ≤ k) := Lib.hid ⟨hli, n0, N1.out⟩
              have CL := Lib.hid (len_qs w.heap.size b k n' r' _ _ HS7.out.q)
              have HJ1 := Lib.hid hj1
              clear hxj hj4 hone hli hgl HMI hj1 hj40 hjn hl1' v0 v1 hll
              go_wp2_with fail
              refine CL.out.mono ?_
              rintro e w7 ⟨rfl, rfl⟩
              have HS8 := Lib.hid HS7.out.drop
              clear CL HS6 HX6 HS7
              go_wp2_with fail
              go_roundw
              case rel => exact ⟨j + 1, r', n', G'.set jj 2, by go_num, HJ1.out, by have := HJ.out; omega, by go_num, HS8, HI7⟩
              case measure => simp [intOf] <;> omega
        · have HI2 : Hid (LI r n 40 G ∧ 0 ≤ n ∧ n ≤ k) := Lib.hid ⟨HI.out.1.mono (by omega), HI.out.2⟩
          go_wp2_with fail
          go_meet
          exact ⟨r, n, G, rfl, HS, HI2⟩
      · have HI2 : Hid (LI r n 40 G ∧ 0 ≤ n ∧ n ≤ k) := Lib.hid ⟨HI.out.1.mono (by omega), HI.out.2⟩
        go_wp2_with fail
        go_meet
        exact ⟨r, n, G, rfl, HS, HI2⟩
  case rest =>
    obtain ⟨r, n, G, rfl, HS, HI⟩ := hcut
    clear HS1 HI1
    have n0 := HI.out.2.1
    have n1 : n ≤ 100 := by have := HI.out.2.2; omega
    have CAll := Lib.hid (all_qs w.heap.size b k n r [g] wc HS.out.q (fun q hq => by have := HI.out.1.ok.row hq; omega))
    go_wp2_with fail
    refine CAll.out.mono ?_
    rintro e w2 ⟨o, ov, hall, rfl, hp⟩
    have hol : (o.length : Int) = n := by rw [hall.length]; exact HI.out.1.ok.tot.symm
    have HRD := Lib.hid (RowRd.of hp.own)
    have HOG : Hid (∀ q, ov.ownBlock = some q → q ≠ g) := Lib.hid (fun q hq hh => by
      have h1 := (hp.own.lt q hq).1
      have h2 := HS.out.q.lt g (by simp)
      omega)
    have HG2 := Lib.hid (show IntsAt w2 g G from hp.st.block (by simp) HS.out.ints)
    have HB2 := Lib.hid (HS.out.st.trans hp.st.below)
    have HGL := Lib.hid (show w.heap.size ≤ g ∧ G.length = 40 from ⟨HS.out.low, HI.out.1.len⟩)
    have HO : Hid (∀ x ∈ o, 0 ≤ x.id ∧ x.id < 40 ∧ ∀ jj : Nat, x.id = (jj : Int) → G.getD jj 0 = 1) := Lib.hid (fun x hx => by
      have hc : 0 < cid o x.id := by
        unfold cid
        refine List.length_pos_of_mem (a := x) ?_
        simp [hx]
      rw [hall.cid] at hc
      have h1 := HI.out.1.past x.id (by omega)
      have h2 := HI.out.1.le x.id
      refine ⟨h1.1, by omega, fun jj hj => (HI.out.1.one jj (by omega)).2 (by rw [← hj]; omega)⟩)
    have HND : Hid (∀ (q : Nat) (x : It), o[q]? = some x → cid (o.take q) x.id = 0) := Lib.hid (fun q x hx => by
      have h1 : cid o x.id ≤ 1 := by rw [hall.cid]; exact HI.out.1.le x.id
      have h2 : o = o.take q ++ x :: o.drop (q + 1) := (split_at hx).1
      rw [h2, cid_app, ← List.singleton_append, cid_app, cid_one, if_pos rfl] at h1
      omega)
    obtain ⟨ao, cap, rfl⟩ := HRD.out.val
    obtain ⟨no, hno⟩ : ∃ m, o.length = m := ⟨_, rfl⟩
    have HNO := Lib.hid hno
    rw [hno] at hol HRD HOG ⊢
    subst hol
    have hno1 : no ≤ 100 := by omega
    have HG0 : Hid (∃ G', IntsAt w2 g G' ∧ G'.length = 40 ∧ ∀ jj : Nat, jj < 40 → cid (o.take 0) jj = 0 → G'.getD jj 0 = G.getD jj 0) := Lib.hid ⟨G, HG2.out, HGL.out.2, fun _ _ _ => rfl⟩
    clear hall hp CAll HS HI hno HG2 n0 n1
    go_wp2_with fail
    go_loopw [14] (fun i wr => ∃ q : Nat, q ≤ no ∧ i = .int .i64 q ∧ Hid (∃ G', IntsAt wr g G' ∧ G'.length = 40 ∧ ∀ jj : Nat, jj < 40 → cid (o.take q) jj = 0 → G'.getD jj 0 = G.getD jj 0) ∧ Hid (RowRd wr (.slice ao no cap) o) ∧ Hid (Below w.heap.size w wr)) (fun i _ => no - (intOf i).toNat)
    case atStart => exact ⟨0, by omega, rfl, HG0, HRD, HB2⟩
    case round =>
      obtain ⟨q, hq, rfl, HG, HR2, HB⟩ := hrel
      clear HG0 HRD HB2
      by_cases hqn : q < no
      · obtain ⟨x, hx⟩ : ∃ x, o[q]? = some x := ⟨o[q]'(by rw [HNO.out]; omega), by simp⟩
        obtain ⟨gg, cap', hv, x0, -, -⟩ := HR2.out.get hx
        obtain rfl : ao = some ⟨gg, 0, none⟩ := by cases hv; rfl
        obtain ⟨i0, i1, i2⟩ := HO.out x (List.mem_of_getElem? hx)
        obtain ⟨jj, hj⟩ : ∃ jj : Nat, x.id = (jj : Int) := ⟨x.id.toNat, by omega⟩
        have hone := i2 jj hj
        obtain ⟨G', hg1, hg2, hg3⟩ := HG.out
        have hnd := HND.out q x hx
        rw [hj] at hnd x0 i0 i1
        have g0 := hg1.cell (j := jj) (by omega)
        rw [hg3 jj (by omega) hnd, hone] at g0
        have gf : wr.frozen? ⟨g, jj, none⟩ = false := BlockAt.free hg1 jj
        have HG3 : Hid (∃ G', IntsAt (wr.setCell ⟨g, jj, none⟩ (.int .i64 3)) g G' ∧ G'.length = 40 ∧ ∀ kk : Nat, kk < 40 → cid (o.take (q + 1)) kk = 0 → G'.getD kk 0 = G.getD kk 0) := Lib.hid ⟨G'.set jj 3, hg1.set jj 3, by simp [hg2], fun kk hk hc => by
          rw [take_next hx, cid_app, cid_one, hj] at hc
          rw [getD_set 3 (by omega)]
          by_cases e : kk = jj
          · subst e; rw [if_pos rfl] at hc; omega
          · rw [if_neg e]; exact hg3 kk hk (by omega)⟩
        have hu : Upd [g] wr (wr.setCell ⟨g, jj, none⟩ (.int .i64 3)) := Upd.setCell' _ _ _ (by simp)
        have HR3 := Lib.hid (HR2.out.keep hu (fun q hq => by simp; exact HOG.out q hq))
        have HB3 := Lib.hid (HB.out.trans (hu.below HB.out.size (by simp; exact HGL.out.1)))
        have q0 : (0 : Int) ≤ q := by omega
        have q1 : (q : Int) < no := by omega
        clear hx hv i2 hj hone hg1 hg2 hg3 hnd hu hqn HG HR2 HB
        go_wp2_with fail
        go_roundw
        case rel => exact ⟨q + 1, by omega, by go_num, HG3, HR3, HB3⟩
        case measure => simp [intOf] <;> omega
      · obtain rfl : q = no := by omega
        clear hqn hq
        go_wp2_with fail
        refine (lives_any _).mono ?_
        rintro e w9 ⟨rfl, hb9⟩
        have HB9 := Lib.hid hb9
        clear hb9
        go_wp2_with fail
        go_ret
        exact ⟨rfl, HB.out.trans (HB9.out.mono HB.out.size)⟩
end Go.Proofs.Ytapoikegoknlcaa
