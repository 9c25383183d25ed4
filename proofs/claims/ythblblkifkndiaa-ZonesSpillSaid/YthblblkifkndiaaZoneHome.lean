/- Layer 11: the walks of Home and Panic. -/
import Derived.Test.YthblblkifkndiaaZoneIds
namespace Go.Proofs.Ythblblkifkndiaa
open Go.RowKit
theorem seq_of {w1 : World} {sv : Value} {es : List En} {p : En → Bool} {k : Nat} {caps : Array Value} (he : EnsIn w1 sv es) (hent : ∀ args w, (callFunc k args).run Try.prog w = .ok (.enter k args) w) (hask : ∀ x W1, Below w1.heap.size w1 W1 → Calls Try.prog k (#[x.val] ++ caps) W1 (AskPost (p x) W1)) :
    SeqIs ((w1.alloc (.cells #[sv] 23)).alloc (.cells #[.func (.func k) #[] caps] 44)) (.func (.func 33) #[] #[.pointer (some ⟨w1.heap.size, 0, none⟩), .pointer (some ⟨w1.heap.size + 1, 0, none⟩)]) es p := by
  have u1 := Upd.alloc [] w1 (.cells #[sv] 23)
  have u2 := Upd.alloc [] (w1.alloc (.cells #[sv] 23)) (.cells #[.func (.func k) #[] caps] 44)
  have hsz : (w1.alloc (.cells #[sv] 23)).heap.size = w1.heap.size + 1 := by simp
  refine ⟨w1.heap.size, w1.heap.size + 1, k, caps, sv, rfl, ?_, (he.keep u1 (by simp)).keep u2 (by simp), ?_, hent, fun x W1 hb => hask x W1 ?_⟩
  · exact u2.cell ((BlockAt.new w1 23 [sv]).cell 0 _ rfl) (by simp)
  · have := (BlockAt.new (w1.alloc (.cells #[sv] 23)) 44 [.func (.func k) #[] caps]).cell 0 _ rfl
    rwa [hsz] at this
  · have := (u1.trans u2).size
    exact ((u1.trans u2).below (Nat.le_refl _) (by simp)).trans (hb.mono this)
theorem each_two (w1 : World) (sv f : Value) : Upd [] w1 ((w1.alloc (.cells #[sv] 23)).alloc (.cells #[f] 44)) := (Upd.alloc [] _ _).trans (Upd.alloc [] _ _)
theorem EnsIn.shape {w : World} {sv : Value} {es : List En} (h : EnsIn w sv es) : ∃ a n c, sv = .slice a n c := by
  obtain ⟨a, cap, hv, -⟩ := h
  exact ⟨a, _, cap, hv⟩
/-- The boxes of a zone and of a set, and the endpoints. -/
structure HW (w W : World) (sv : Value) (es : List En) (zb fb M : Nat) (z : Int) (ws : List Int) : Prop where
  bel : Below w.heap.size w W
  cz : W.cell? ⟨zb, 0, none⟩ = some (.int .i64 z)
  cf : W.cell? ⟨fb, 0, none⟩ = some (.map (some M))
  hm : MapU W M (setOf ws)
  he : EnsIn W sv es
theorem HW.next {w W W' : World} {sv : Value} {es : List En} {zb fb M : Nat} {z : Int} {ws : List Int} (h : HW w W sv es zb fb M z ws) (hb : Below W.heap.size W W') : HW w W' sv es zb fb M z ws :=
  ⟨h.bel.trans (hb.mono h.bel.size), (Upd.ofBelow hb).cell h.cz (by simp), (Upd.ofBelow hb).cell h.cf (by simp), h.hm.keep (Upd.ofBelow hb) (by simp), h.he.below hb⟩
set_option maxRecDepth 100000 in
set_option maxHeartbeats 2000000 in
theorem home_any (sv v : Value) (es : List En) (ws : List Int) (z : Int) (w : World) (he : EnsIn w sv es) (hw : IntsIn w v ws) (hl : (ws.length : Int) ≤ 100000) :
    Calls Try.prog 12 #[sv, v, .int .i64 z] w fun e w' => e = .returned (.int .i64 (homeOf es ws z)) ∧ Below w.heap.size w w' := by
  obtain ⟨a0, n0, c0, rfl⟩ := he.shape
  have uz := Upd.alloc [] w (.cells #[.int .i64 z] 3)
  have CA := Lib.hid (among_any v ws _ (hw.keep uz (by simp)) hl)
  have cz := (BlockAt.new w 3 [.int .i64 z]).cell 0 _ rfl
  have HE := Lib.hid (And.intro he (And.intro uz cz))
  obtain ⟨a2, n2, c2, rfl⟩ : ∃ a n c, v = .slice a n c := by
    obtain ⟨a, c, hv, -⟩ := hw
    exact ⟨a, _, c, hv⟩
  clear he hw uz cz
  go_enter Try.func12, Try.ntmps12
  go_wp2_with fail
  refine CA.out.mono ?_
  rintro e w1 ⟨rfl, hm1, hu1⟩
  have u2 := Upd.alloc [] w1 (.cells #[.map (some (w.alloc (.cells #[.int .i64 z] 3)).heap.size)] 38)
  have hbox := (BlockAt.new w1 38 [.map (some (w.alloc (.cells #[.int .i64 z] 3)).heap.size)]).cell 0 _ rfl
  have hhw : HW w (w1.alloc (.cells #[.map (some (w.alloc (.cells #[.int .i64 z] 3)).heap.size)] 38)) (.slice a0 n0 c0) es w.heap.size w1.heap.size (w.alloc (.cells #[.int .i64 z] 3)).heap.size z ws :=
    ⟨((HE.out.2.1.trans hu1).trans u2).below (Nat.le_refl _) (by simp), u2.cell (hu1.cell HE.out.2.2 (by simp)) (by simp), hbox, hm1.keep u2 (by simp), HE.out.1.keep ((HE.out.2.1.trans hu1).trans u2) (by simp)⟩
  have H0 := Lib.hid hhw
  clear hm1 hu1 u2 hbox hhw HE CA
  go_upto_region 2 with fail
  obtain ⟨M, hM⟩ : ∃ M, (w.alloc (.cells #[.int .i64 z] 3)).heap.size = M := ⟨_, rfl⟩
  have hM2 : w.heap.size + 1 = M := by rw [← hM]; simp
  rw [hM] at H0
  rw [hM2]
  obtain ⟨zb, hzb⟩ : ∃ zb, w.heap.size = zb := ⟨_, rfl⟩
  obtain ⟨fb, hfb⟩ : ∃ fb, w1.heap.size = fb := ⟨_, rfl⟩
  obtain ⟨W, hW⟩ : ∃ W, w1.alloc (.cells #[.map (some M)] 38) = W := ⟨_, rfl⟩
  have H1 : Hid (HW w W (.slice a0 n0 c0) es zb fb M z ws) := Lib.hid (by rw [← hzb, ← hfb, ← hW]; exact H0.out)
  rw [hzb, hfb, hW]
  clear H0 hM hM2 hzb hfb hW
  go_wp2_with fail
  refine (each_any _ _ W ⟨_, _, _, rfl⟩ ⟨_, _, rfl⟩).mono ?_
  rintro e w2 ⟨rfl, rfl⟩
  have CC := Lib.hid (count_any _ es (isHere z) _ (seq_of (k := 24) (caps := #[.pointer (some ⟨zb, 0, none⟩)]) H1.out.he (enters_of Try.func24 (by kernel_rfl) rfl) (fun x W1 hb => ask_here x z zb W1 (H1.out.next hb).cz)))
  go_wp2_with fail
  refine CC.out.mono ?_
  rintro e W2 ⟨rfl, hb⟩
  have H2 := Lib.hid (H1.out.next (W' := W2) (((each_two W (.slice a0 n0 c0) _).below (Nat.le_refl _) (by simp)).trans (hb.mono (each_two W (.slice a0 n0 c0) (.func (.func 24) #[] #[.pointer (some ⟨zb, 0, none⟩)])).size)))
  clear hb CC H1
  go_wp2_with fail
  refine (each_any _ _ W2 ⟨_, _, _, rfl⟩ ⟨_, _, rfl⟩).mono ?_
  rintro e w2 ⟨rfl, rfl⟩
  have CC := Lib.hid (count_any _ es (isNear ws z) _ (seq_of (k := 25) (caps := #[.pointer (some ⟨zb, 0, none⟩), .pointer (some ⟨fb, 0, none⟩)]) H2.out.he (enters_of Try.func25 (by kernel_rfl) rfl) (fun x W1 hb => ask_near x z ws zb fb M W1 (H2.out.next hb).cz (H2.out.next hb).cf (H2.out.next hb).hm)))
  go_wp2_with fail
  refine CC.out.mono ?_
  rintro e W3 ⟨rfl, hb⟩
  have H3 := Lib.hid (H2.out.next (W' := W3) (((each_two W2 (.slice a0 n0 c0) _).below (Nat.le_refl _) (by simp)).trans (hb.mono (each_two W2 (.slice a0 n0 c0) (.func (.func 25) #[] #[.pointer (some ⟨zb, 0, none⟩), .pointer (some ⟨fb, 0, none⟩)])).size)))
  clear hb CC H2
  go_wp2_with fail
  refine (each_any _ _ W3 ⟨_, _, _, rfl⟩ ⟨_, _, rfl⟩).mono ?_
  rintro e w2 ⟨rfl, rfl⟩
  have CC := Lib.hid (count_any _ es (isFar ws z) _ (seq_of (k := 26) (caps := #[.pointer (some ⟨zb, 0, none⟩), .pointer (some ⟨fb, 0, none⟩)]) H3.out.he (enters_of Try.func26 (by kernel_rfl) rfl) (fun x W1 hb => ask_far x z ws zb fb M W1 (H3.out.next hb).cz (H3.out.next hb).cf (H3.out.next hb).hm)))
  go_wp2_with fail
  refine CC.out.mono ?_
  rintro e W4 ⟨rfl, hb⟩
  have H4 := Lib.hid (H3.out.next (W' := W4) (((each_two W3 (.slice a0 n0 c0) _).below (Nat.le_refl _) (by simp)).trans (hb.mono (each_two W3 (.slice a0 n0 c0) (.func (.func 26) #[] #[.pointer (some ⟨zb, 0, none⟩), .pointer (some ⟨fb, 0, none⟩)])).size)))
  clear hb CC H3
  have hle : ((es.countP (isHere z) : Nat) : Int) ≤ 1000 ∧ ((es.countP (isNear ws z) : Nat) : Int) ≤ 1000 := by
    obtain ⟨-, -, -, hlen, -⟩ := H4.out.he
    have h1 := List.countP_le_length (p := isHere z) (l := es)
    have h2 := List.countP_le_length (p := isNear ws z) (l := es)
    omega
  have hnh := near_here es ws z
  have hbel := Lib.hid H4.out.bel
  have hdef : homeOf es ws z = if es.countP (isNear ws z) = 0 then 0 else if es.countP (isFar ws z) = 0 then 100 else 100 * (es.countP (isNear ws z) : Int) / (es.countP (isHere z) : Int) := rfl
  obtain ⟨A, hA⟩ : ∃ A, es.countP (isHere z) = A := ⟨_, rfl⟩
  obtain ⟨B, hB⟩ : ∃ B, es.countP (isNear ws z) = B := ⟨_, rfl⟩
  obtain ⟨C, hC⟩ : ∃ C, es.countP (isFar ws z) = C := ⟨_, rfl⟩
  rw [hA, hB, hC] at hdef
  rw [hA, hB] at hle
  rw [hA, hB] at hnh
  rw [hA, hB, hC]
  have HDEF := Lib.hid hdef
  clear hdef hA hB hC H4
  by_cases hB0 : B = 0
  · have HH : Hid (homeOf es ws z = 0) := Lib.hid (by rw [HDEF.out, if_pos hB0])
    subst hB0
    go_wp2_with fail
    go_ret
    exact ⟨by rw [HH.out]; rfl, hbel.out⟩
  · have b0 : ¬ (B : Int) = 0 := by omega
    have b1 : ((B : Int) == 0) = false := by simpa using b0
    by_cases hC0 : C = 0
    · have HH : Hid (homeOf es ws z = 100) := Lib.hid (by rw [HDEF.out, if_neg hB0, if_pos hC0])
      subst hC0
      clear hB0
      go_wp2_with fail
      go_ret
      exact ⟨by rw [HH.out]; rfl, hbel.out⟩
    · have d0 : ¬ (C : Int) = 0 := by omega
      have d1 : ((C : Int) == 0) = false := by simpa using d0
      have ew := IntWalk.i64_in (100 * (B : Int)) (by omega)
      have CD := Lib.hid (fun w => down_any (100 * (B : Int)) A w (by omega) (by omega) (by omega) (by omega))
      have HBB := Lib.hid (And.intro hB0 hC0)
      clear hB0 hC0 hle hnh
      go_wp2_with fail
      refine (CD.out _).mono ?_
      rintro e w7 ⟨rfl, rfl⟩
      go_wp2_with fail
      go_ret
      exact ⟨by rw [HDEF.out, if_neg HBB.out.1, if_neg HBB.out.2]; rfl, hbel.out⟩
set_option maxRecDepth 100000 in
set_option maxHeartbeats 2000000 in
theorem panic_any (sv v : Value) (es : List En) (ws : List Int) (p : Int) (w : World) (he : EnsIn w sv es) (hw : IntsIn w v ws) (hl : (ws.length : Int) ≤ 100000) (p0 : 0 ≤ p) (p1 : p ≤ 1000) :
    Calls Try.prog 17 #[sv, v, .int .i64 p] w fun e w' => e = .returned (.bool (panicOf es ws p)) ∧ Below w.heap.size w w' := by
  obtain ⟨a0, c0, rfl, hlen, hdata⟩ := he
  have he : EnsIn w (.slice a0 es.length c0) es := ⟨a0, c0, rfl, hlen, hdata⟩
  have CA := Lib.hid (among_any v ws w hw hl)
  obtain ⟨a2, n2, c2, rfl⟩ : ∃ a n c, v = .slice a n c := by
    obtain ⟨a, c, hv, -⟩ := hw
    exact ⟨a, _, c, hv⟩
  have HE := Lib.hid he
  have hn0 := List.countP_le_length (p := isWell ws) (l := es)
  have hdef : panicOf es ws p = decide (100 * (es.countP (isWell ws) : Int) < p * (es.length : Int)) := rfl
  obtain ⟨A, hA⟩ : ∃ A, es.countP (isWell ws) = A := ⟨_, rfl⟩
  obtain ⟨n0, hn⟩ : ∃ n, es.length = n := ⟨_, rfl⟩
  rw [hA, hn] at hdef
  rw [hA, hn] at hn0
  rw [hn] at HE hlen
  have HA := Lib.hid hA
  rw [hn]
  have HDEF := Lib.hid hdef
  have hpl : 0 ≤ p * (n0 : Int) := Int.mul_nonneg p0 (by omega)
  have hpu : p * (n0 : Int) ≤ 1000 * 1000 := Int.mul_le_mul p1 hlen (by omega) (by omega)
  obtain ⟨T, hT⟩ : ∃ T, p * (n0 : Int) = T := ⟨_, rfl⟩
  rw [hT] at hpl hpu
  have ew1 := IntWalk.i64_in (100 * (A : Int)) (by omega)
  have ew2 : IntKind.i64.wrap (p * (n0 : Int)) = T := by rw [hT]; exact IntWalk.i64_in _ (by omega)
  have HT := Lib.hid hT
  clear he hw hdata hA hn hdef hT p0 p1
  go_enter Try.func17, Try.ntmps17
  go_wp2_with fail
  refine CA.out.mono ?_
  rintro e w1 ⟨rfl, hm1, hu1⟩
  have u2 := Upd.alloc [] w1 (.cells #[.map (some w.heap.size)] 38)
  have hbox := (BlockAt.new w1 38 [.map (some w.heap.size)]).cell 0 _ rfl
  have H0 := Lib.hid (And.intro hbox (And.intro (hm1.keep u2 (by simp)) (And.intro (HE.out.keep (hu1.trans u2) (by simp)) ((hu1.trans u2).below (B := w.heap.size) (Nat.le_refl _) (by simp)))))
  clear hm1 hu1 u2 hbox HE CA
  go_upto_region 2 with fail
  obtain ⟨W, hW⟩ : ∃ W, w1.alloc (.cells #[.map (some w.heap.size)] 38) = W := ⟨_, rfl⟩
  obtain ⟨fb, hfb⟩ : ∃ fb, w1.heap.size = fb := ⟨_, rfl⟩
  have H1 : Hid (W.cell? ⟨fb, 0, none⟩ = some (.map (some w.heap.size)) ∧ MapU W w.heap.size (setOf ws) ∧ EnsIn W (.slice a0 n0 c0) es ∧ Below w.heap.size w W) := Lib.hid (by rw [← hW, ← hfb]; exact H0.out)
  rw [hW, hfb]
  clear H0 hW hfb
  go_wp2_with fail
  refine (each_any _ _ W ⟨_, _, _, rfl⟩ ⟨_, _, rfl⟩).mono ?_
  rintro e w2 ⟨rfl, rfl⟩
  have CC := Lib.hid (count_any _ es (isWell ws) _ (seq_of (k := 32) (caps := #[.pointer (some ⟨fb, 0, none⟩)]) H1.out.2.2.1 (enters_of Try.func32 (by kernel_rfl) rfl) (fun x W1 hb => ask_well x ws fb w.heap.size W1 ((Upd.ofBelow hb).cell H1.out.1 (by simp)) (H1.out.2.1.keep (Upd.ofBelow hb) (by simp)))))
  rw [HA.out] at CC
  go_wp2_with fail
  refine CC.out.mono ?_
  rintro e W2 ⟨rfl, hb⟩
  have hu3 := each_two W (.slice a0 n0 c0) (.func (.func 32) #[] #[.pointer (some ⟨fb, 0, none⟩)])
  have H2 := Lib.hid (H1.out.2.2.2.trans (((hu3.below (B := W.heap.size) (Nat.le_refl _) (by simp)).trans (hb.mono hu3.size)).mono H1.out.2.2.2.size))
  clear hb CC H1 hu3
  go_wp2_with fail
  go_ret
  exact ⟨by rw [HDEF.out, HT.out]; rfl, H2.out⟩
end Go.Proofs.Ythblblkifkndiaa
