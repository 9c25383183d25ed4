/- Layer 11: the reference's rows of IDs. -/
import Derived.Test.YthblblkifkndiaaZoneEnds
namespace Go.Proofs.Ythblblkifkndiaa
open Go.RowKit
def lenOf : Value → Nat
  | .slice _ n _ => n
  | _ => 0
def I64s (l : List Int) : Prop := ∀ z ∈ l, -9223372036854775808 ≤ z ∧ z ≤ 9223372036854775807
theorem OutI.isIds2 {l : List En} {f : En → Bool} {out : List Int} (h : OutI (idsF l f) out) (hd : (l.map En.id).Nodup) (hl : ¬ out.length < l.length) : IsIds l f out := by
  refine h.isIds hd (h.full ?_)
  have : (idsF l f).length ≤ l.length := by unfold idsF; rw [List.length_map]; exact List.length_filter_le _ _
  omega
theorem OutI.short {l : List En} {f : En → Bool} {out : List Int} (h : OutI (idsF l f) out) : out.length ≤ l.length := by
  have h1 := h.len
  have : (idsF l f).length ≤ l.length := by unfold idsF; rw [List.length_map]; exact List.length_filter_le _ _
  omega
set_option maxRecDepth 100000 in
set_option maxHeartbeats 4000000 in
theorem refIds_any (sv v : Value) (es : List En) (ws : List Int) (z : Int) (here all : Bool) (w : World) (he : EnsIn w sv es) (hw : IntsIn w v ws) (hl : (ws.length : Int) ≤ 1000) (hd : (es.map En.id).Nodup) (hid : ∀ e ∈ es, 0 ≤ e.id ∧ e.id ≤ 1000000) (hlen : (es.length : Int) ≤ 100) :
    Calls Try.prog 28 #[sv, v, .int .i64 z, .bool here, .bool all] w (IdsPost es (refFit ws z here all) w) := by
  obtain ⟨a0, c0, rfl, hlen0, hdata⟩ := he
  obtain ⟨a2, c2, rfl, hwrest⟩ := hw
  have HE : Hid (EnsIn w (.slice a0 es.length c0) es) := Lib.hid ⟨a0, c0, rfl, hlen0, hdata⟩
  have HW : Hid (IntsIn w (.slice a2 ws.length c2) ws) := Lib.hid ⟨a2, c2, rfl, hwrest⟩
  obtain ⟨f, hf⟩ : ∃ f, refFit ws z here all = f := ⟨_, rfl⟩
  have HF := Lib.hid hf
  have HD := Lib.hid (And.intro hd hid)
  rw [hf]
  obtain ⟨N, hN⟩ : ∃ N, es.length = N := ⟨_, rfl⟩
  obtain ⟨N2, hN2⟩ : ∃ N2, ws.length = N2 := ⟨_, rfl⟩
  rw [hN2] at HW hl
  rw [hN] at HE hlen
  have HN := Lib.hid (And.intro hN hN2)
  have HI0 : Hid (OwnInts w.heap.size w (.slice none 0 0) [] ∧ Below w.heap.size w w ∧ OutI (idsF es f) []) := Lib.hid ⟨OwnInts.nil _ _, Below.refl _ _, OutI.nil _⟩
  rw [hN, hN2]
  clear hf hd hid hN hN2 hlen0 hdata hwrest
  go_enter Try.func28, Try.ntmps28
  go_wp2_with fail
  go_loopw [11] (fun v wr => ∃ (m : Nat) (ao : Option Addr) (cap : Nat) (s : List Int), m ≤ N ∧ v = .slice ao m cap ∧ Hid (s.length = m ∧ OwnInts w.heap.size wr v s ∧ Below w.heap.size w wr ∧ OutI (idsF es f) s)) (fun v _ => N - lenOf v)
  case atStart => exact ⟨0, none, 0, [], by omega, rfl, Lib.hid ⟨rfl, HI0.out⟩⟩
  case round =>
    obtain ⟨m, ao, cap, s, hm, rfl, HI⟩ := hrel
    clear HI0
    by_cases hmn : m < N
    · have hmn' : (m : Int) < N := by omega
      have HMN := Lib.hid hmn
      clear hmn
      go_upto_block 2 with fail
      go_cut [12] (fun lv wx => ∃ M : Int, lv = .int .i64 M ∧ Hid (LeastI es f s N M) ∧ wx = wr)
      case first =>
        have HL0 : Hid (LeastI es f s 0 4611686018427387904) := Lib.hid (LeastI.start _ _ _)
        have HEr := Lib.hid (HE.out.below HI.out.2.2.1)
        have HWr := Lib.hid (HW.out.keep (Upd.ofBelow HI.out.2.2.1) (by simp))
        have hsr : I64s s := fun x hx => by
          obtain ⟨e, he, rfl⟩ := List.mem_map.1 (HI.out.2.2.2.sub x hx)
          have := HD.out.2 e (List.mem_filter.1 he).1
          omega
        have HSr := Lib.hid (HI.out.2.1.isIn hsr)
        obtain ⟨W0, hW⟩ : ∃ W0, W0 = wr := ⟨_, rfl⟩
        clear hsr
        subst hW
        have HSB : Hid ((s.length : Int) ≤ 100) := Lib.hid (by rw [HI.out.1]; omega)
        go_wp2_with fail
        go_loopw [12, 13] (fun lv i wy => ∃ (j : Nat) (M : Int), j ≤ N ∧ i = .int .i64 j ∧ lv = .int .i64 M ∧ Hid (LeastI es f s j M) ∧ wy = W0) (fun _ i _ => N - (intOf i).toNat)
        case atStart => exact ⟨0, _, by omega, rfl, rfl, HL0, rfl⟩
        case round =>
          obtain ⟨j, M, hj, rfl, rfl, HL, rfl⟩ := hrel
          clear HL0
          by_cases hjn : j < N
          · obtain ⟨y, hy⟩ : ∃ y, es[j]? = some y := ⟨es[j]'(by rw [HN.out.1]; exact hjn), by simp [HN.out.1, hjn]⟩
            obtain ⟨g, off, rfl, hc⟩ : ∃ g off, a0 = some ⟨g, off, none⟩ ∧ ∀ (c : Nat) (u : Value), y.cells[c]? = some u → wr.cell? ⟨g, off + j * 3 + c, none⟩ = some u := by
              obtain ⟨a, cp, hv, -, hdata⟩ := HEr.out
              cases hv
              rcases hdata with h | ⟨b, off, ha, -, hc⟩
              · rw [h] at hy; simp at hy
              · exact ⟨b, off, ha, hc j y hy⟩
            have x0 := hc 0 _ rfl
            have x2 := hc 2 _ rfl
            rw [Nat.add_zero] at x0
            have hyid := HD.out.2 y (List.mem_of_getElem? hy)
            have hfy : f y = ((decide (y.zone = z) == here) && (all || decide (y.id ∈ ws))) := by rw [← HF.out]; rfl
            have HY := Lib.hid hy
            have j0 : (0 : Int) ≤ j := by omega
            have j1 : (j : Int) < N := by omega
            have HJN := Lib.hid hjn
            obtain ⟨yi, ys, yz⟩ := y
            dsimp only at x0 x2 hfy hyid
            obtain ⟨F, hF⟩ : ∃ F, (decide (yz = z) == here) = F := ⟨_, rfl⟩
            obtain ⟨G, hG⟩ : ∃ G, (all || decide (yi ∈ ws)) = G := ⟨_, rfl⟩
            rw [hF, hG] at hfy
            have HFF := Lib.hid hF
            have HGG := Lib.hid hG
            have HFY := Lib.hid hfy
            have HID := Lib.hid hyid
            have CH1 := Lib.hid (has_any (.slice a2 N2 c2) ws yi wr HWr.out (by rw [HN.out.2]; omega))
            have CH2 := Lib.hid (has_any (.slice ao m cap) s yi wr HSr.out (by have := HSB.out; omega))
            clear hy hc hjn hF hG hfy hyid
            go_upto_region 7 with fail
            go_cut [14] (fun fv wy => fv = .bool F ∧ wy = wr)
            case first =>
              have hFF := HFF.out
              by_cases hz : yz = z
              · subst hz
                cases here
                all_goals
                  simp at hFF
                  subst hFF
                  go_wp2_with fail
                  go_meet
                  exact ⟨rfl, rfl⟩
              · have e1 : (yz == z) = false := by simpa using hz
                have e2 : decide (yz = z) = false := by simpa using hz
                rw [e2] at hFF
                cases here
                all_goals
                  simp at hFF
                  subst hFF
                  clear hz
                  go_wp2_with fail
                  go_meet
                  exact ⟨rfl, rfl⟩
            case rest =>
              obtain ⟨rfl, rfl⟩ := hcut
              clear x2
              go_upto_region 8 with fail
              go_cut [15] (fun gv wz => gv = .bool G ∧ wz = wc)
              case first =>
                have hGG := HGG.out
                cases all with
                | true =>
                  simp at hGG
                  subst hGG
                  go_wp2_with fail
                  go_meet
                  exact ⟨rfl, rfl⟩
                | false =>
                  simp only [Bool.false_or] at hGG
                  rw [hGG] at CH1
                  clear hGG
                  go_wp2_with fail
                  refine CH1.out.mono ?_
                  rintro e6 w6 ⟨rfl, rfl⟩
                  clear CH1
                  go_wp2_with fail
                  go_meet
                  exact ⟨rfl, rfl⟩
              case rest =>
                obtain ⟨rfl, rfl⟩ := hcut
                clear CH1 HFF HGG
                have hskip : ∀ (_ : (F && G) = false), LeastI es f s (j + 1) M := fun hh => HL.out.skip HY.out (fun hq => by rw [HFY.out, hh] at hq; cases hq.1)
                have HSK := Lib.hid hskip
                clear hskip
                cases F with
                | false =>
                  go_wp2_with fail
                  go_roundw
                  case rel => exact ⟨j + 1, M, by have := HJN.out; omega, by go_num, rfl, Lib.hid (HSK.out rfl), trivial⟩
                  case measure => have := HJN.out; simp [intOf] <;> omega
                | true =>
                  cases G with
                  | false =>
                    go_wp2_with fail
                    go_roundw
                    case rel => exact ⟨j + 1, M, by have := HJN.out; omega, by go_num, rfl, Lib.hid (HSK.out rfl), trivial⟩
                    case measure => have := HJN.out; simp [intOf] <;> omega
                  | true =>
                    by_cases hin : yi ∈ s
                    · have hd : decide (yi ∈ s) = true := by simpa using hin
                      rw [hd] at CH2
                      have HN2 : Hid (LeastI es f s (j + 1) M) := Lib.hid (HL.out.skip HY.out (fun hq => hq.2 hin))
                      clear hin hd
                      go_wp2_with fail
                      refine CH2.out.mono ?_
                      rintro e6 w6 ⟨rfl, rfl⟩
                      go_wp2_with fail
                      go_roundw
                      case rel => exact ⟨j + 1, M, by have := HJN.out; omega, by go_num, rfl, HN2, trivial⟩
                      case measure => have := HJN.out; simp [intOf] <;> omega
                    · have hd : decide (yi ∈ s) = false := by simpa using hin
                      rw [hd] at CH2
                      have HN2 : Hid (LeastI es f s (j + 1) (min M yi)) := Lib.hid (HL.out.take HY.out (by rw [HFY.out]; rfl) hin (by have := HID.out; dsimp only; omega))
                      obtain ⟨M2, hM2⟩ : ∃ M2, min M yi = M2 := ⟨_, rfl⟩
                      rw [hM2] at HN2
                      clear hin hd
                      go_wp2_with fail
                      refine CH2.out.mono ?_
                      rintro e6 w6 ⟨rfl, rfl⟩
                      go_wp2_with fail
                      go_roundw
                      case rel => exact ⟨j + 1, M2, by have := HJN.out; omega, by go_num, rfl, HN2, trivial⟩
                      case measure => have := HJN.out; simp [intOf] <;> omega
          · obtain rfl : j = N := by omega
            go_wp2_with fail
            go_meet
            exact ⟨M, rfl, HL, rfl⟩
      case rest =>
        obtain ⟨M, rfl, HL, rfl⟩ := hcut
        by_cases hM : M = 4611686018427387904
        · have hF : IdsPost es f w (.returned (.slice ao m cap)) _ := ⟨_, s, rfl, HI.out.2.2.2.isIds HD.out.1 (LeastI.none (by rw [HN.out.1, ← hM]; exact HL.out) (fun e he => by have := HD.out.2 e he; omega)), HI.out.2.1, HI.out.2.2.1⟩
          have HFF := Lib.hid hF
          subst hM
          clear hF
          go_wp2_with fail
          go_ret
          exact HFF.out
        · have e1 : (M == 4611686018427387904) = false := by simpa using hM
          have e2 : decide (M = 4611686018427387904) = false := by simpa using hM
          have hnew : OutI (idsF es f) (s ++ [M]) := LeastI.some (by rw [HN.out.1]; exact HL.out) hM HI.out.2.2.2
          have HNEW := Lib.hid hnew
          have HOWN : Hid (World.ownsRow wc w.heap.size 3 1 (.slice ao m cap) m (s.map (Value.int .i64))) := Lib.hid (by
            have := HI.out.2.1
            unfold OwnInts at this
            rwa [HI.out.1] at this)
          have HBS := Lib.hid HI.out.2.2.1.size
          clear hnew hM
          go_wp2_with (at_builtin; refine wpList_append_put wc rfl (.tmp 70) (.tmp 72) 22 rfl w.heap.size 3 1 8 Try.infoInt (by kernel_rfl) rfl (by decide) (.slice ao m cap) m (s.map (Value.int .i64)) rfl HOWN.out [Value.int .i64 M] rfl rfl rfl (by unfold maxLen; omega) (by omega) HBS.out ?_)
          intro gg cap' w4 hown hu hgg
          have HI4 : Hid ((s ++ [M]).length = m + 1 ∧ OwnInts w.heap.size w4 (.slice (some ⟨gg, 0, none⟩) (m + 1) cap') (s ++ [M]) ∧ Below w.heap.size w w4 ∧ OutI (idsF es f) (s ++ [M])) := Lib.hid ⟨by simp [HI.out.1], OwnInts.of hown (by simp [HI.out.1]) (by simp), HI.out.2.2.1.trans (hu.below HBS.out (fun k hk => by simp at hk; exact (HI.out.2.1.lt k hk).1)), HNEW.out⟩
          clear hown hu hgg HOWN
          go_wp2_with fail
          go_roundw
          case rel => exact ⟨m + 1, some ⟨gg, 0, none⟩, cap', _, by have := HMN.out; omega, rfl, HI4⟩
          case measure => have := HMN.out; simp [lenOf] <;> omega
    · have hF : IdsPost es f w (.returned (.slice ao m cap)) wr := ⟨_, s, rfl, HI.out.2.2.2.isIds2 HD.out.1 (by rw [HI.out.1, HN.out.1]; exact hmn), HI.out.2.1, HI.out.2.2.1⟩
      obtain rfl : m = N := by omega
      have HFF := Lib.hid hF
      clear hF
      go_wp2_with fail
      go_ret
      exact HFF.out
end Go.Proofs.Ythblblkifkndiaa
