/- Layer 11: the reference's Home, Panic and Among tell what the program's do. -/
import Derived.Test.YthblblkifkndiaaZoneIDs
namespace Go.Proofs.Ythblblkifkndiaa
open Go.RowKit
structure EIn (w : World) (sv : Value) (es : List En) : Prop where
  m : EnsIn w sv es
  nodup : (es.map En.id).Nodup
  ids : ∀ e ∈ es, 0 ≤ e.id ∧ e.id ≤ 1000000
  len : (es.length : Int) ≤ 100
theorem EIn.next {w w' : World} {sv : Value} {es : List En} (h : EIn w sv es) (hb : Below w.heap.size w w') : EIn w' sv es := ⟨h.m.below hb, h.nodup, h.ids, h.len⟩
structure WIn (w : World) (v : Value) (ws : List Int) : Prop where
  m : IntsIn w v ws
  len : (ws.length : Int) ≤ 1000
theorem WIn.next {w w' : World} {v : Value} {ws : List Int} (h : WIn w v ws) (hb : Below w.heap.size w w') : WIn w' v ws := ⟨h.m.keep (Upd.ofBelow hb) (by simp), h.len⟩
theorem WIn.shape {w : World} {v : Value} {ws : List Int} (h : WIn w v ws) : ∃ a c, v = .slice a ws.length c := by
  obtain ⟨a, c, hv, -⟩ := h.m
  exact ⟨a, c, hv⟩
theorem EIn.shape {w : World} {v : Value} {es : List En} (h : EIn w v es) : ∃ a c, v = .slice a es.length c := by
  obtain ⟨a, c, hv, -⟩ := h.m
  exact ⟨a, c, hv⟩
theorem refI (sv v : Value) (es : List En) (ws : List Int) (z : Int) (here all : Bool) (w : World) (he : EIn w sv es) (hw : WIn w v ws) :
    Calls Try.prog 28 #[sv, v, .int .i64 z, .bool here, .bool all] w (IdsPost es (refFit ws z here all) w) := refIds_any sv v es ws z here all w he.m hw.m hw.len he.nodup he.ids he.len
set_option maxRecDepth 100000 in
set_option maxHeartbeats 2000000 in
theorem refHome_any (sv v : Value) (es : List En) (ws : List Int) (z : Int) (w : World) (he : EIn w sv es) (hw : WIn w v ws) :
    Calls Try.prog 13 #[sv, v, .int .i64 z] w fun e w' => e = .returned (.int .i64 (homeOf es ws z)) ∧ Below w.heap.size w w' := by
  have hnh := near_here es ws z
  have hcl := List.countP_le_length (p := isHere z) (l := es)
  have hlen := he.len
  obtain ⟨a0, c0, rfl⟩ := he.shape
  obtain ⟨a2, c2, rfl⟩ := hw.shape
  have HE := Lib.hid (And.intro he hw)
  have C1 := Lib.hid (refI _ _ es ws z true false w he hw)
  have hdef : homeOf es ws z = if es.countP (isNear ws z) = 0 then 0 else if es.countP (isFar ws z) = 0 then 100 else 100 * (es.countP (isNear ws z) : Int) / (es.countP (isHere z) : Int) := rfl
  have HN := Lib.hid (fun s (hs : IsIds es (refFit ws z true false) s) => show s.length = es.countP (isNear ws z) by rw [ids_len hs, ref_near])
  have HFa := Lib.hid (fun s (hs : IsIds es (refFit ws z false false) s) => show s.length = es.countP (isFar ws z) by rw [ids_len hs, ref_far])
  have HH := Lib.hid (fun s (hs : IsIds es (refFit ws z true true) s) => show s.length = es.countP (isHere z) by rw [ids_len hs, ref_here])
  obtain ⟨A, hA⟩ : ∃ A, es.countP (isHere z) = A := ⟨_, rfl⟩
  obtain ⟨B, hB⟩ : ∃ B, es.countP (isNear ws z) = B := ⟨_, rfl⟩
  obtain ⟨C, hC⟩ : ∃ C, es.countP (isFar ws z) = C := ⟨_, rfl⟩
  rw [hA, hB, hC] at hdef
  rw [hB] at HN
  rw [hC] at HFa
  rw [hA] at HH hcl
  rw [hA, hB] at hnh
  have HDEF := Lib.hid hdef
  have hA100 : (A : Int) ≤ 100 := by omega
  have hB100 : (B : Int) ≤ 100 := by omega
  clear hdef hA hB hC he hw hlen hcl
  go_enter Try.func13, Try.ntmps13
  go_wp2_with fail
  refine C1.out.mono ?_
  rintro e w1 ⟨v1, s1, rfl, hs1, ho1, hb1⟩
  obtain ⟨x1, y1, rfl⟩ := own_len ho1
  rw [HN.out s1 hs1]
  have HE1 := Lib.hid (And.intro (HE.out.1.next hb1) (And.intro (HE.out.2.next hb1) hb1))
  have C2 := Lib.hid (refI _ _ es ws z false false w1 HE1.out.1 HE1.out.2.1)
  clear hs1 ho1 hb1 C1 HE HN
  go_wp2_with fail
  refine C2.out.mono ?_
  rintro e w2 ⟨v2, s2, rfl, hs2, ho2, hb2⟩
  obtain ⟨x2, y2, rfl⟩ := own_len ho2
  rw [HFa.out s2 hs2]
  have HE2 := Lib.hid (And.intro (HE1.out.1.next hb2) (And.intro (HE1.out.2.1.next hb2) (HE1.out.2.2.trans (hb2.mono HE1.out.2.2.size))))
  have C3 := Lib.hid (refI _ _ es ws z true true w2 HE2.out.1 HE2.out.2.1)
  clear hs2 ho2 hb2 C2 HE1 HFa
  by_cases hB0 : B = 0
  · have HR : Hid (homeOf es ws z = 0) := Lib.hid (by rw [HDEF.out, if_pos hB0])
    subst hB0
    go_wp2_with fail
    go_ret
    exact ⟨by rw [HR.out]; rfl, HE2.out.2.2⟩
  · have b0 : ¬ (B : Int) = 0 := by omega
    have b1 : ((B : Int) == 0) = false := by simpa using b0
    by_cases hC0 : C = 0
    · have HR : Hid (homeOf es ws z = 100) := Lib.hid (by rw [HDEF.out, if_neg hB0, if_pos hC0])
      subst hC0
      clear hB0
      go_wp2_with fail
      go_ret
      exact ⟨by rw [HR.out]; rfl, HE2.out.2.2⟩
    · have d0 : ¬ (C : Int) = 0 := by omega
      have d1 : ((C : Int) == 0) = false := by simpa using d0
      have HR : Hid (homeOf es ws z = 100 * (B : Int) / (A : Int)) := Lib.hid (by rw [HDEF.out, if_neg hB0, if_neg hC0])
      have ew := IntWalk.i64_in (100 * (B : Int)) (by omega)
      have ha0 : (1 : Int) ≤ A := by omega
      have hq0 : (0 : Int) ≤ 100 * (B : Int) := by omega
      have hq1 : (100 * (B : Int)).tdiv A = 100 * (B : Int) / A := tdiv_nonneg _ _ hq0
      obtain ⟨Q, hQ⟩ : ∃ Q, 100 * (B : Int) / A = Q := ⟨_, rfl⟩
      have hQr : 0 ≤ Q ∧ Q ≤ 10000 := by
        rw [← hQ]
        exact ⟨Int.ediv_nonneg hq0 (by omega), Int.le_trans (Int.ediv_le_self _ hq0) (by omega)⟩
      rw [hQ] at hq1 HR
      have ewq : IntKind.i64.wrap ((100 * (B : Int)).tdiv A) = Q := by rw [hq1]; exact IntWalk.i64_in _ (by omega)
      have a0' : ¬ (A : Int) = 0 := by omega
      clear hB0 hC0 hQ
      go_wp2_with fail
      refine C3.out.mono ?_
      rintro e w3 ⟨v3, s3, rfl, hs3, ho3, hb3⟩
      obtain ⟨x3, y3, rfl⟩ := own_len ho3
      rw [HH.out s3 hs3]
      have HE3 := Lib.hid (HE2.out.2.2.trans (hb3.mono HE2.out.2.2.size))
      clear hs3 ho3 hb3 C3 HE2 HH
      go_wp2_with fail
      go_ret
      exact ⟨by rw [HR.out]; rfl, HE3.out⟩
set_option maxRecDepth 100000 in
set_option maxHeartbeats 2000000 in
theorem refPanic_any (sv v : Value) (es : List En) (ws : List Int) (p : Int) (w : World) (he : EIn w sv es) (hw : WIn w v ws) (p0 : 0 ≤ p) (p1 : p ≤ 1000) :
    Calls Try.prog 18 #[sv, v, .int .i64 p] w fun e w' => e = .returned (.bool (panicOf es ws p)) ∧ Below w.heap.size w w' := by
  have hnf := near_far es ws 0
  have hcl := List.countP_le_length (p := isWell ws) (l := es)
  have hlen := he.len
  obtain ⟨a0, c0, rfl⟩ := he.shape
  obtain ⟨a2, c2, rfl⟩ := hw.shape
  have HE := Lib.hid (And.intro he hw)
  have C1 := Lib.hid (refI _ _ es ws 0 true false w he hw)
  have hdef : panicOf es ws p = decide (100 * (es.countP (isWell ws) : Int) < p * (es.length : Int)) := rfl
  have HN := Lib.hid (fun s (hs : IsIds es (refFit ws 0 true false) s) => show s.length = es.countP (isNear ws 0) by rw [ids_len hs, ref_near])
  have HFa := Lib.hid (fun s (hs : IsIds es (refFit ws 0 false false) s) => show s.length = es.countP (isFar ws 0) by rw [ids_len hs, ref_far])
  obtain ⟨A, hA⟩ : ∃ A, es.countP (isWell ws) = A := ⟨_, rfl⟩
  obtain ⟨B, hB⟩ : ∃ B, es.countP (isNear ws 0) = B := ⟨_, rfl⟩
  obtain ⟨C, hC⟩ : ∃ C, es.countP (isFar ws 0) = C := ⟨_, rfl⟩
  obtain ⟨n0, hn⟩ : ∃ n, es.length = n := ⟨_, rfl⟩
  rw [hA, hn] at hdef
  rw [hB] at HN
  rw [hC] at HFa
  rw [hA, hB, hC] at hnf
  rw [hA, hn] at hcl
  rw [hn] at hlen HE C1
  rw [hn]
  have HDEF := Lib.hid hdef
  have hpl : 0 ≤ p * (n0 : Int) := Int.mul_nonneg p0 (by omega)
  have hpu : p * (n0 : Int) ≤ 1000 * 1000 := Int.mul_le_mul p1 (by omega) (by omega) (by omega)
  obtain ⟨T, hT⟩ : ∃ T, p * (n0 : Int) = T := ⟨_, rfl⟩
  rw [hT] at hpl hpu
  have ew0 : IntKind.i64.wrap ((B : Int) + C) = (A : Int) := by rw [show (B : Int) + C = A by omega]; exact IntWalk.i64_in _ (by omega)
  have ew1 := IntWalk.i64_in (100 * (A : Int)) (by omega)
  have ew2 : IntKind.i64.wrap (p * (n0 : Int)) = T := by rw [hT]; exact IntWalk.i64_in _ (by omega)
  have HT := Lib.hid hT
  clear hdef hA hB hC hn hT he hw p0 p1 hnf
  go_enter Try.func18, Try.ntmps18
  go_wp2_with fail
  refine C1.out.mono ?_
  rintro e w1 ⟨v1, s1, rfl, hs1, ho1, hb1⟩
  obtain ⟨x1, y1, rfl⟩ := own_len ho1
  rw [HN.out s1 hs1]
  have HE1 := Lib.hid (And.intro (HE.out.1.next hb1) (And.intro (HE.out.2.next hb1) hb1))
  have C2 := Lib.hid (refI _ _ es ws 0 false false w1 HE1.out.1 HE1.out.2.1)
  clear hs1 ho1 hb1 C1 HE HN
  go_wp2_with fail
  refine C2.out.mono ?_
  rintro e w2 ⟨v2, s2, rfl, hs2, ho2, hb2⟩
  obtain ⟨x2, y2, rfl⟩ := own_len ho2
  rw [HFa.out s2 hs2]
  have HE2 := Lib.hid (HE1.out.2.2.trans (hb2.mono HE1.out.2.2.size))
  clear hs2 ho2 hb2 C2 HE1 HFa
  go_wp2_with fail
  go_ret
  exact ⟨by rw [HDEF.out, HT.out]; rfl, HE2.out⟩
theorem bare_isIds {es : List En} {ws : List Int} {z p d : Int} {s : List Int} (hp : panicOf es ws p = true) (hs : IsIds (es.map bare) (refFit [] 0 true true) s) : IsIds es (fitOf es ws z p d) s := by
  rw [fit_panic hp]
  have h1 := ref_all es []
  exact ⟨by have := hs.1; unfold idsF at h1; rwa [h1] at this, hs.2⟩
set_option maxRecDepth 100000 in
set_option maxHeartbeats 2000000 in
theorem refAmong_any (sv v : Value) (es : List En) (ws : List Int) (z p d : Int) (w : World) (he : EIn w sv es) (hw : WIn w v ws) (p0 : 0 ≤ p) (p1 : p ≤ 1000) :
    Calls Try.prog 16 #[sv, v, .int .i64 z, .int .i64 p, .int .i64 d] w (IdsPost es (fitOf es ws z p d) w) := by
  have hlen := he.len
  obtain ⟨a0, c0, rfl⟩ := he.shape
  obtain ⟨a2, c2, rfl⟩ := hw.shape
  have HE := Lib.hid (And.intro he hw)
  have C1 := Lib.hid (refPanic_any _ _ es ws p w he hw p0 p1)
  obtain ⟨B, hB⟩ : ∃ B, panicOf es ws p = B := ⟨_, rfl⟩
  have HBB := Lib.hid hB
  rw [hB] at C1
  obtain ⟨N, hN⟩ : ∃ N, es.length = N := ⟨_, rfl⟩
  have HN := Lib.hid hN
  rw [hN] at C1 HE hlen
  rw [hN]
  clear he hw p0 p1 hB hN
  go_enter Try.func16, Try.ntmps16
  go_wp2_with fail
  refine C1.out.mono ?_
  rintro e w1 ⟨rfl, hb1⟩
  have HE1 := Lib.hid (And.intro (HE.out.1.next hb1) (And.intro (HE.out.2.next hb1) hb1))
  clear hb1 C1 HE
  cases B with
  | true =>
    have HI0 : Hid (OwnEns w1.heap.size w1 (.slice none 0 0) ((es.take 0).map bare) ∧ Below w1.heap.size w1 w1) := Lib.hid ⟨World.ownsRow_nil _ _ _ _, Below.refl _ _⟩
    go_wp2_with fail
    go_loopw [12, 13] (fun bv i wr => ∃ (j : Nat) (ao : Option Addr) (cap : Nat), j ≤ N ∧ i = .int .i64 j ∧ bv = .slice ao j cap ∧ Hid (OwnEns w1.heap.size wr bv ((es.take j).map bare) ∧ Below w1.heap.size w1 wr)) (fun _ i _ => N - (intOf i).toNat)
    case atStart => exact ⟨0, none, 0, by omega, rfl, rfl, HI0⟩
    case round =>
      obtain ⟨j, ao, cap, hj, rfl, rfl, HI⟩ := hrel
      clear HI0
      by_cases hjn : j < N
      · obtain ⟨y, hy⟩ : ∃ y, es[j]? = some y := ⟨es[j]'(by rw [HN.out]; exact hjn), by simp [HN.out, hjn]⟩
        obtain ⟨g, off, rfl, hc⟩ : ∃ g off, a0 = some ⟨g, off, none⟩ ∧ w1.cell? ⟨g, off + j * 3, none⟩ = some (.int .i64 y.id) := by
          obtain ⟨a, cp, hv, -, hdata⟩ := HE1.out.1.m
          rw [HN.out] at hv
          cases hv
          rcases hdata with h | ⟨b, off, ha, -, hc⟩
          · rw [h] at hy; simp at hy
          · exact ⟨b, off, ha, hc j y hy 0 _ rfl⟩
        have x0 := (Upd.ofBelow HI.out.2).cell hc (by simp)
        have hjl : ((es.take j).map bare).length = j := by rw [List.length_map, List.length_take, HN.out]; omega
        have hsn : (es.take (j + 1)).map bare = (es.take j).map bare ++ [⟨y.id, 0, 0⟩] := by rw [List.take_add_one, hy]; simp [bare]
        obtain ⟨bl, hbl⟩ : ∃ bl, (es.take j).map bare = bl := ⟨_, rfl⟩
        rw [hbl] at hjl hsn HI
        have HSN := Lib.hid (And.intro hjl hsn)
        have HOWN : Hid (wr.ownsRow w1.heap.size 35 3 (.slice ao j cap) j (cellsE bl)) := Lib.hid (by
          have := HI.out.1
          unfold OwnEns at this
          rwa [hjl] at this)
        have HBS := Lib.hid HI.out.2.size
        have j0 : (0 : Int) ≤ j := by omega
        have j1 : (j : Int) < N := by omega
        have HJN := Lib.hid hjn
        obtain ⟨yi, hyi⟩ : ∃ yi, y.id = yi := ⟨_, rfl⟩
        rw [hyi] at x0 HSN
        clear hy hc hjl hsn hjn hyi hbl
        go_wp2_with (at_builtin; refine wpList_append_put wr rfl (.tmp 26) (.tmp 33) 23 rfl w1.heap.size 35 3 24 Try.infoEnd (by kernel_rfl) rfl (by decide) (.slice ao j cap) j (cellsE bl) rfl HOWN.out [.int .i64 yi, .int .i64 0, .int .i64 0] rfl rfl rfl (by unfold maxLen; omega) (by omega) HBS.out ?_)
        intro gg cap' w5 hown hu hgg
        have HI6 : Hid (OwnEns w1.heap.size w5 (.slice (some ⟨gg, 0, none⟩) (j + 1) cap') ((es.take (j + 1)).map bare) ∧ Below w1.heap.size w1 w5) := Lib.hid ⟨by
          rw [HSN.out.2]
          unfold OwnEns
          rw [cellsE_snoc, List.length_append, HSN.out.1]
          exact hown, HI.out.2.trans (hu.below HBS.out (fun k hk => by simp at hk; exact (HI.out.1.lt k hk).1))⟩
        clear hown hu hgg HOWN x0
        go_wp2_with fail
        go_roundw
        case rel => exact ⟨j + 1, some ⟨gg, 0, none⟩, cap', by have := HJN.out; omega, by go_num, rfl, HI6⟩
        case measure => have := HJN.out; simp [intOf] <;> omega
      · obtain rfl : j = N := by omega
        have hI := HI.out
        rw [← HN.out, List.take_length, HN.out] at hI
        have hein : EIn wr (.slice ao j cap) (es.map bare) := ⟨by
          have := hI.1.isIn (by rw [List.length_map, HN.out]; omega)
          exact this, by rw [List.map_map]; exact HE1.out.1.nodup, fun e he => by
          obtain ⟨x, hx, rfl⟩ := List.mem_map.1 he
          exact HE1.out.1.ids x hx, by rw [List.length_map]; exact HE1.out.1.len⟩
        have CI := Lib.hid (refI _ (.slice none 0 0) (es.map bare) [] 0 true true wr hein ⟨intsIn_nil _ _ _, by simp⟩)
        have HB2 := Lib.hid (HE1.out.2.2.trans (hI.2.mono HE1.out.2.2.size))
        clear hI hein
        go_wp2_with fail
        refine CI.out.mono ?_
        rintro e w3 ⟨u, s, rfl, hs, hown, hb3⟩
        have hF : IdsPost es (fitOf es ws z p d) w (.returned u) w3 := ⟨u, s, rfl, bare_isIds HBB.out hs, ownsRow_mono hown HB2.out.size, HB2.out.trans (hb3.mono HB2.out.size)⟩
        have HFF := Lib.hid hF
        clear hs hown hb3 hF CI
        go_wp2_with fail
        go_ret
        exact HFF.out
  | false =>
    have C2 := Lib.hid (refHome_any _ _ es ws z w1 HE1.out.1 HE1.out.2.1)
    obtain ⟨hm, hhm⟩ : ∃ hm, homeOf es ws z = hm := ⟨_, rfl⟩
    rw [hhm] at C2
    have HM := Lib.hid hhm
    clear hhm
    go_wp2_with fail
    refine C2.out.mono ?_
    rintro e w2 ⟨rfl, hb2⟩
    have HE2 := Lib.hid (And.intro (HE1.out.1.next hb2) (And.intro (HE1.out.2.1.next hb2) (HE1.out.2.2.trans (hb2.mono HE1.out.2.2.size))))
    have C3 := Lib.hid (refI _ _ es ws z (decide (d < hm)) false w2 HE2.out.1 HE2.out.2.1)
    clear hb2 C2 HE1
    go_wp2_with fail
    refine C3.out.mono ?_
    rintro e w3 ⟨u, s, rfl, hs, hown, hb3⟩
    have hF : IdsPost es (fitOf es ws z p d) w (.returned u) w3 := ⟨u, s, rfl, by rw [fit_calm HBB.out, HM.out]; exact hs, ownsRow_mono hown HE2.out.2.2.size, HE2.out.2.2.trans (hb3.mono HE2.out.2.2.size)⟩
    have HFF := Lib.hid hF
    clear hs hown hb3 hF C3
    go_wp2_with fail
    go_ret
    exact HFF.out
end Go.Proofs.Ythblblkifkndiaa
