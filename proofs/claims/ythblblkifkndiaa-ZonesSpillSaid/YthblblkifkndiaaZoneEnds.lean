/- Layer 11: Ends: endpoints made of numbers, no two of one ID. -/
import Derived.Test.YthblblkifkndiaaZoneMake
namespace Go.Proofs.Ythblblkifkndiaa
open Go.RowKit
structure EndsOk (l : List En) : Prop where
  len : (l.length : Int) ≤ 9
  r : ∀ e ∈ l, (1 ≤ e.id ∧ e.id ≤ 12) ∧ 1 ≤ e.zone ∧ e.zone ≤ 3
  nodup : (l.map En.id).Nodup
def hadIn (l : List En) (x : Int) : Bool := l.any (fun e => decide (e.id = x))
theorem hadIn_snoc (l : List En) (e : En) (x : Int) : hadIn (l ++ [e]) x = (hadIn l x || decide (e.id = x)) := by simp [hadIn]
theorem EndsOk.add {l : List En} {e : En} (h : EndsOk l) (hl : (l.length : Int) + 1 ≤ 9) (he : (1 ≤ e.id ∧ e.id ≤ 12) ∧ 1 ≤ e.zone ∧ e.zone ≤ 3) (hn : hadIn l e.id = false) : EndsOk (l ++ [e]) := by
  refine ⟨by simp; omega, fun y hy => ?_, ?_⟩
  · rcases List.mem_append.1 hy with hy | hy
    · exact h.r y hy
    · simp at hy; subst hy; exact he
  · rw [List.map_append, List.nodup_append]
    refine ⟨h.nodup, by simp, fun a ha b hb => ?_⟩
    simp at hb
    subst hb
    intro hab
    subst hab
    obtain ⟨y, hy, hy2⟩ := List.mem_map.1 ha
    have : hadIn l e.id = true := List.any_eq_true.2 ⟨y, hy, by simpa using hy2⟩
    rw [hn] at this; cases this
set_option maxRecDepth 100000 in
set_option maxHeartbeats 4000000 in
theorem ends_any (v : Value) (zs : List Int) (w : World) (h : IntsIn w v zs) :
    Calls Try.prog 9 #[v] w fun e w' => ∃ v' l, e = .returned v' ∧ OwnEns w.heap.size w' v' l ∧ Below w.heap.size w w' ∧ EndsOk l := by
  obtain ⟨a1, c1, rfl, hln, hr, hr1⟩ := h
  have HR1 := Lib.hid hr1
  have HR := Lib.hid hr
  have hll : (zs.length : Int) ≤ 9223372036854775807 := by omega
  have HI0 : Hid (OwnEns w.heap.size w (.slice none 0 0) [] ∧ Below w.heap.size w w ∧ EndsOk []) := Lib.hid ⟨World.ownsRow_nil _ _ _ _, Below.refl _ _, by simp, by simp, by simp⟩
  clear hr1 hr hln
  go_enter Try.func9, Try.ntmps9
  go_wp2_with fail
  go_loopw [3, 4] (fun v i wr => ∃ (q m : Nat) (ao : Option Addr) (cap : Nat) (l : List En), q ≤ 9 ∧ q ≤ zs.length ∧ m ≤ q ∧ i = .int .i64 q ∧ v = .slice ao m cap ∧ Hid (l.length = m ∧ OwnEns w.heap.size wr v l ∧ Below w.heap.size w wr ∧ EndsOk l)) (fun _ i _ => 9 - (intOf i).toNat)
  case atStart => exact ⟨0, 0, none, 0, [], by omega, by omega, by omega, rfl, rfl, Lib.hid ⟨rfl, HI0.out⟩⟩
  case round =>
    obtain ⟨q, m, ao, cap, l, hq, hqz, hmq, rfl, rfl, HI⟩ := hrel
    clear HI0
    have HEND : Hid (∃ l', OwnEns w.heap.size wr (Value.slice ao m cap) l' ∧ Below w.heap.size w wr ∧ EndsOk l') := Lib.hid ⟨l, HI.out.2⟩
    by_cases hl1 : q < zs.length
    · by_cases hl2 : q < 9
      · obtain ⟨z, hz⟩ : ∃ z, zs[q]? = some z := ⟨zs[q], by simp [hl1]⟩
        have hzr := HR.out z (List.mem_of_getElem? hz)
        obtain ⟨ab, off, rfl, hc0⟩ : ∃ b off, a1 = some ⟨b, off, none⟩ ∧ w.cell? ⟨b, off + q, none⟩ = some (.int .i64 z) := by
          rcases HR1.out with h | ⟨b, off, rfl, hc⟩
          · subst h; simp at hz
          · exact ⟨b, off, rfl, by rw [hc q hl1, List.getD, hz]; rfl⟩
        have hcell : wr.cell? ⟨ab, off + q, none⟩ = some (.int .i64 z) := (Upd.ofBelow HI.out.2.2.1).cell hc0 (by simp)
        have CA := Lib.hid (fun w => around_any z 1000 w hzr.1 hzr.2 (by omega))
        have v0 := around_nonneg z 1000 (by omega)
        have v1 := around_lt z 1000 (by omega)
        obtain ⟨x, hx⟩ : ∃ x : Nat, around z 1000 = (x : Int) := ⟨(around z 1000).toNat, by omega⟩
        rw [hx] at CA v0 v1
        have ew := IntWalk.i64_in (1 + (x : Int) % 12) (by omega)
        have ew2 := IntWalk.i64_in (1 + (x : Int) / 12 % 3) (by omega)
        have HJ := Lib.hid (And.intro hl1 hl2)
        have j0 : (0 : Int) ≤ q := by omega
        have hl1' : (q : Int) < zs.length := by omega
        have hl2' : (q : Int) < 9 := by omega
        clear hz hc0 hzr hx hl1 hl2 HEND
        go_wp2_with fail
        refine (CA.out _).mono ?_
        rintro e w' ⟨rfl, rfl⟩
        clear CA
        go_upto_region 7 with fail
        obtain ⟨I, hI⟩ : ∃ I, 1 + (x : Int) % 12 = I := ⟨_, rfl⟩
        obtain ⟨Zn, hZn⟩ : ∃ Zn, 1 + (x : Int) / 12 % 3 = Zn := ⟨_, rfl⟩
        have hIZ : (1 ≤ I ∧ I ≤ 12) ∧ 1 ≤ Zn ∧ Zn ≤ 3 := by omega
        have HIZ := Lib.hid hIZ
        rw [hI, hZn]
        obtain ⟨E, hE⟩ : ∃ E, wr.heap.size = E := ⟨_, rfl⟩
        obtain ⟨W4, hW4⟩ : ∃ W4, wr.alloc (.cells #[.int .i64 I, .int .i64 1, .int .i64 Zn] 35) = W4 := ⟨_, rfl⟩
        have hu4 : Upd [] wr W4 := by rw [← hW4]; exact Upd.alloc [] _ _
        have hb4 : BlockAt W4 E 35 [.int .i64 I, .int .i64 1, .int .i64 Zn] := by rw [← hW4, ← hE]; exact BlockAt.new wr _ _
        have H4 : Hid (l.length = m ∧ OwnEns w.heap.size W4 (.slice ao m cap) l ∧ Below w.heap.size w W4 ∧ EndsOk l) := Lib.hid ⟨HI.out.1, hu4.owns HI.out.2.1 (by simp), HI.out.2.2.1.trans (hu4.below HI.out.2.2.1.size (by simp)), HI.out.2.2.2⟩
        have HB := Lib.hid hb4
        have hm9 : (m : Int) ≤ 9 := by omega
        rw [hE, hW4]
        clear hI hZn hIZ hE hW4 hu4 hb4 HI ew ew2 v0 v1
        go_upto_block 2 with fail
        go_cut [7] (fun hv wx => hv = .bool (hadIn l I) ∧ Hid (Upd [] W4 wx))
        case first =>
          have HU0 : Hid (Upd [] W4 W4) := Lib.hid (Upd.refl _ _)
          go_wp2_with fail
          go_loopw [7, 8] (fun hv k wy => ∃ (j : Nat) (B : Bool), j ≤ m ∧ k = .int .i64 j ∧ hv = .bool B ∧ Hid (B = hadIn (l.take j) I) ∧ Hid (Upd [] W4 wy)) (fun _ k _ => m - (intOf k).toNat)
          case atStart => exact ⟨0, false, by omega, rfl, rfl, Lib.hid rfl, HU0⟩
          case round =>
            obtain ⟨j, B, hj, rfl, rfl, HBB, HU⟩ := hrel
            clear HU0
            by_cases hjm : j < m
            · obtain ⟨y, hy⟩ : ∃ y, l[j]? = some y := ⟨l[j]'(by rw [H4.out.1]; exact hjm), by simp [H4.out.1, hjm]⟩
              obtain ⟨a, cp, hv, -, hdata⟩ := H4.out.2.1.isIn (by rw [H4.out.1]; omega)
              obtain ⟨g, off2, rfl, hc⟩ : ∃ g off2, ao = some ⟨g, off2, none⟩ ∧ W4.cell? ⟨g, off2 + j * 3, none⟩ = some (.int .i64 y.id) := by
                rw [H4.out.1] at hv
                cases hv
                rcases hdata with h | ⟨b, off2, ha, -, hc⟩
                · rw [h] at hy; simp at hy
                · exact ⟨b, off2, ha, hc j y hy 0 _ rfl⟩
              have x0 := HU.out.cell hc (by simp)
              have e0 := HU.out.cell (HB.out.cell 0 _ rfl) (by simp)
              have hsn : hadIn (l.take (j + 1)) I = (hadIn (l.take j) I || decide (y.id = I)) := by rw [← hadIn_snoc, List.take_add_one, hy]; rfl
              rw [← HBB.out] at hsn
              have HSN := Lib.hid hsn
              have k0 : (0 : Int) ≤ j := by omega
              have k1 : (j : Int) < m := by omega
              clear hy hv hdata hc hsn hjm
              cases B with
              | true =>
                go_wp2_with fail
                go_quiet (fail)
                go_wp2_with fail
                have HU3 : ∀ k, Hid (Upd [] W4 (wr.drewN k)) := fun k => Lib.hid (HU.out.trans (Upd.drewN [] wr k))
                go_roundw
                case rel => exact ⟨j + 1, true, by omega, by go_num, rfl, Lib.hid (by rw [HSN.out]; rfl), HU3 _⟩
                case measure => simp [intOf] <;> omega
              | false =>
                obtain ⟨yi, ys, yz⟩ := y
                dsimp only at x0 HSN
                by_cases hyi : yi = I
                · have HT : Hid (true = hadIn (l.take (j + 1)) I) := Lib.hid (by rw [HSN.out]; simp [hyi])
                  subst hyi
                  go_wp2_with fail
                  go_quiet (fail)
                  go_wp2_with fail
                  have HU3 : ∀ k, Hid (Upd [] W4 (wr.drewN k)) := fun k => Lib.hid (HU.out.trans (Upd.drewN [] wr k))
                  go_roundw
                  case rel => exact ⟨j + 1, true, by omega, by go_num, rfl, HT, HU3 _⟩
                  case measure => simp [intOf] <;> omega
                · have HT : Hid (false = hadIn (l.take (j + 1)) I) := Lib.hid (by rw [HSN.out]; simp [hyi])
                  have e1 : (yi == I) = false := by simpa using hyi
                  have e2 : decide (yi = I) = false := by simpa using hyi
                  clear hyi
                  go_wp2_with fail
                  go_quiet (fail)
                  go_wp2_with fail
                  have HU3 : ∀ k, Hid (Upd [] W4 (wr.drewN k)) := fun k => Lib.hid (HU.out.trans (Upd.drewN [] wr k))
                  go_roundw
                  case rel => exact ⟨j + 1, false, by omega, by go_num, rfl, HT, HU3 _⟩
                  case measure => simp [intOf] <;> omega
            · obtain rfl : j = m := by omega
              have hB : B = hadIn l I := by have := HBB.out; rwa [← H4.out.1, List.take_length] at this
              subst hB
              go_wp2_with fail
              go_meet
              exact ⟨rfl, HU⟩
        case rest =>
          obtain ⟨rfl, HU⟩ := hcut
          have HI5 : Hid (OwnEns w.heap.size wc (.slice ao m cap) l ∧ Below w.heap.size w wc) := Lib.hid ⟨HU.out.owns H4.out.2.1 (by simp), H4.out.2.2.1.trans (HU.out.below H4.out.2.2.1.size (by simp))⟩
          obtain ⟨B, hB⟩ : ∃ B, hadIn l I = B := ⟨_, rfl⟩
          have HBB := Lib.hid hB
          rw [hB]
          clear hB
          cases B with
          | true =>
            go_wp2_with fail
            go_roundw
            case rel => exact ⟨q + 1, m, ao, cap, l, by have := HJ.out; omega, by have := HJ.out; omega, by omega, by go_num, rfl, Lib.hid ⟨H4.out.1, HI5.out.1, HI5.out.2, H4.out.2.2.2⟩⟩
            case measure => have := HJ.out; simp [intOf] <;> omega
          | false =>
            have e0 := HU.out.cell (HB.out.cell 0 _ rfl) (by simp)
            have e1 := HU.out.cell (HB.out.cell 1 _ rfl) (by simp)
            have e2 := HU.out.cell (HB.out.cell 2 _ rfl) (by simp)
            have HOWN : Hid (wc.ownsRow w.heap.size 35 3 (.slice ao m cap) m (cellsE l)) := Lib.hid (by
              have := HI5.out.1
              unfold OwnEns at this
              rwa [H4.out.1] at this)
            have HBS := Lib.hid HI5.out.2.size
            go_wp2_with (at_builtin; refine wpList_append_put wc rfl (.tmp 51) (.tmp 53) 23 rfl w.heap.size 35 3 24 Try.infoEnd (by kernel_rfl) rfl (by decide) (.slice ao m cap) m (cellsE l) rfl HOWN.out [.int .i64 I, .int .i64 1, .int .i64 Zn] rfl rfl rfl (by unfold maxLen; omega) (by omega) HBS.out ?_)
            intro gg cap' w5 hown hu hgg
            have HI6 : Hid ((l ++ [(⟨I, 1, Zn⟩ : En)]).length = m + 1 ∧ OwnEns w.heap.size w5 (.slice (some ⟨gg, 0, none⟩) (m + 1) cap') (l ++ [(⟨I, 1, Zn⟩ : En)]) ∧ Below w.heap.size w w5 ∧ EndsOk (l ++ [(⟨I, 1, Zn⟩ : En)])) := Lib.hid ⟨by simp [H4.out.1], by
              unfold OwnEns
              rw [cellsE_snoc, List.length_append, H4.out.1]
              exact hown, HI5.out.2.trans (hu.below HBS.out (fun k hk => by simp at hk; exact (HI5.out.1.lt k hk).1)), H4.out.2.2.2.add (by rw [H4.out.1]; have := HJ.out; omega) HIZ.out HBB.out⟩
            clear hown hu hgg HOWN e0 e1 e2
            go_wp2_with fail
            go_roundw
            case rel => exact ⟨q + 1, m + 1, some ⟨gg, 0, none⟩, cap', _, by have := HJ.out; omega, by have := HJ.out; omega, by omega, by go_num, rfl, HI6⟩
            case measure => have := HJ.out; simp [intOf] <;> omega
      · obtain rfl : q = 9 := by omega
        have hl1' : ((9 : Nat) : Int) < zs.length := by omega
        obtain ⟨l', h1⟩ := HEND.out
        go_wp2_with fail
        go_ret
        exact ⟨_, l', rfl, h1⟩
    · obtain rfl : q = zs.length := by omega
      obtain ⟨l', h1⟩ := HEND.out
      go_wp2_with fail
      go_ret
      exact ⟨_, l', rfl, h1⟩
end Go.Proofs.Ythblblkifkndiaa
