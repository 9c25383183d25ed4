/- Layer 22: the walk of round. -/
import Derived.Test.YtapoikegoknlcaaFairR
import Derived.Deep.CutBlock
import Derived.Deep.DeepCutAuto
import Derived.RegionTactic
namespace Go.Proofs.Ytapoikegoknlcaa
open Go.RowKit
/-- What round knows behind some items. -/
structure R1 (w W : World) (s M lo : Nat) (ptr : Value) (l : List It) (vf : Int → Value) (kv : Value) (K : List Int) : Prop where
  mr : MR W M lo (flowOf l) vf
  keys : OwnInts lo W kv K
  ka : ∀ g, kv.ownBlock = some g → ∀ k, (vf k).ownBlock ≠ some g
  ok : KeysOk l K
  below : Below w.heap.size w W
  box : BlockAt W s 61 [ptr]
  slo : s < lo
  wlo : w.heap.size ≤ M
  top : lo ≤ W.heap.size
  sm : s ≠ M
theorem R1.next {w W W' : World} {s M lo : Nat} {ptr : Value} {l : List It} {vf : Int → Value} {kv : Value} {K : List Int} (h : R1 w W s M lo ptr l vf kv K) (u : Upd [] W W') : R1 w W' s M lo ptr l vf kv K :=
  ⟨h.mr.next u, u.owns h.keys (by simp), h.ka, h.ok, h.below.trans (u.below h.below.size (by simp)), h.box.keep u (by simp), h.slo, h.wlo, Nat.le_trans h.top u.size, h.sm⟩
/-- A key was put. -/
theorem R1.key {w W W' : World} {s M lo : Nat} {ptr : Value} {l : List It} {vf : Int → Value} {kv : Value} {K K' : List Int} (h : R1 w W s M lo ptr l vf kv K) (u : Upd kv.ownBlock.toList W W') {kv' : Value} {g' : Nat} (ho : OwnInts lo W' kv' K') (hv : kv'.ownBlock = some g') (hg : kv.ownBlock = some g' ∨ W.heap.size ≤ g') :
    MR W' M lo (flowOf l) vf ∧ OwnInts lo W' kv' K' ∧ (∀ g, kv'.ownBlock = some g → ∀ k, (vf k).ownBlock ≠ some g) ∧ Below w.heap.size w W' ∧ BlockAt W' s 61 [ptr] ∧ lo ≤ W'.heap.size := by
  have hl : ∀ q, q ∈ kv.ownBlock.toList → lo ≤ q := fun q hq => by
    simp at hq; exact (h.keys.lt q hq).1
  have hM := h.mr.low
  have hs := h.slo
  have hwlo := h.wlo
  refine ⟨h.mr.keep u (fun hh => by have := hl _ hh; omega) (fun k g hk hh => ?_), ho, fun g hk k hh => ?_, h.below.trans (u.below h.below.size (fun q hq => ?_)), h.box.keep u (fun hh => by have := hl _ hh; omega), Nat.le_trans h.top u.size⟩
  · simp at hh; exact h.ka g hh k hk
  · rw [hv] at hk; cases hk
    rcases hg with hg | hg
    · exact h.ka g' hg k hh
    · have := ((h.mr.own k).lt g' hh).2; omega
  · have := hl q hq; omega
/-- An item was put to its row. -/
theorem R1.row {w wx Wb w1 w2 : World} {s M lo g' : Nat} {ptr : Value} {l0 l : List It} {vf : Int → Value} {kv v' : Value} {K : List Int} {f : Int} {y : List It} (hm : MR wx M lo (flowOf l0) vf) (hk : OwnInts lo wx kv K) (hka : ∀ g, kv.ownBlock = some g → ∀ k, (vf k).ownBlock ≠ some g) (hb : Below w.heap.size w wx) (hbox : BlockAt wx s 61 [ptr]) (htop : lo ≤ wx.heap.size)
    (hst : s < lo ∧ w.heap.size ≤ M ∧ s ≠ M) (ub : Upd [] wx Wb) (u : Upd (vf f).ownBlock.toList Wb w1) (hmr : MR w2 M lo (setC (flowOf l0) f y) (setC vf f v')) (hfl : flowOf l = setC (flowOf l0) f y) (u2 : Upd [M] w1 w2) (hv' : v'.ownBlock = some g') (hg : (vf f).ownBlock = some g' ∨ Wb.heap.size ≤ g') (hok : KeysOk l K) :
    R1 w w2 s M lo ptr l (setC vf f v') kv K := by
  have hlow := hm.low
  have hfl2 : ∀ q, q ∈ (vf f).ownBlock.toList → lo ≤ q := fun q hq => by simp at hq; exact ((hm.own f).lt q hq).1
  have ubs := ub.size
  have us := u.size
  have u2s := u2.size
  have hsz := hb.size
  refine ⟨by rw [hfl]; exact hmr, ?_, fun g hgk k => ?_, hok, (hb.trans (ub.below hb.size (by simp))).trans ((u.below (by omega) (fun q hq => by have := hfl2 q hq; omega)).trans (u2.below (by omega) (by simp; exact hst.2.1))), ?_, hst.1, hst.2.1, by omega, hst.2.2⟩
  · refine u2.owns (u.owns (ub.owns hk (by simp)) (fun q hq hh => ?_)) (fun q hq => ?_)
    · simp at hh; exact hka q hq f hh
    · simp; have := (hk.lt q hq).1; omega
  · by_cases e : k = f
    · subst e; rw [setC_same, hv']
      intro hh; cases hh
      rcases hg with hg | hg
      · exact hka g' hgk k hg
      · have := (hk.lt g' hgk).2; omega
    · rw [setC_other _ _ e]; exact hka g hgk k
  · refine ((hbox.keep ub (by simp)).keep u (fun hh => ?_)).keep u2 (by simp; exact hst.2.2)
    have := hfl2 s hh; omega
def lenOf : Value → Nat | .slice _ n _ => n | _ => 0
def RoundPost (base : Nat) (l acc : List It) (tk : Bool) (last : Int) (ov : Value) (w : World) (e : Ending) (w' : World) : Prop :=
  ∃ o ov', RRun l tk last o ∧ e = .returned ov' ∧ w'.ownsRow base 27 3 ov' (acc ++ o).length (cellsI (acc ++ o)) ∧ Upd ov.ownBlock.toList w w' ∧ ∀ g, ov'.ownBlock = some g → ov.ownBlock = some g ∨ w.heap.size ≤ g
set_option maxRecDepth 100000 in
set_option maxHeartbeats 4000000 in
theorem round_any (base b o cap : Nat) (ao : Option Addr) (l acc : List It) (tk : Bool) (last : Int) (ov : Value) (w : World) (hi : l = [] ∨ ∃ g, ao = some ⟨g, 0, none⟩ ∧ ItemsIn w g l ∧ l.length ≤ cap ∧ cap ≤ maxLen) (hl : (l.length : Int) ≤ 100000) (ha : (acc.length : Int) ≤ 100000)
    (k0 : w.cell? ⟨b, o, none⟩ = some (.slice ao l.length cap)) (k1 : w.cell? ⟨b, o + 1, none⟩ = some (.bool tk)) (k2 : w.cell? ⟨b, o + 2, none⟩ = some (.int .i64 last)) (ho : w.ownsRow base 27 3 ov acc.length (cellsI acc)) (hbase : base ≤ w.heap.size) :
    Calls Try.prog 31 #[.pointer (some ⟨b, o, none⟩), ov] w (RoundPost base l acc tk last ov w) := by
  have hmm := @run_makeMap Try.prog
  obtain ⟨i0, hi0, hz0, hz1, hz2⟩ := info_parts Try.infoItem
  have HI := Lib.hid hi
  have HO := Lib.hid ho
  obtain ⟨n, hn⟩ : ∃ n, l.length = n := ⟨_, rfl⟩
  have HN := Lib.hid hn
  rw [hn] at k0 hl
  have hbw : b < w.heap.size := World.block_lt_of_cell? w _ k0
  have HK := Lib.hid (And.intro k0 (And.intro k1 k2))
  have eb : w.heap.size ≠ b := Nat.ne_of_gt hbw
  have eb2 : w.heap.size + 1 ≠ b := by omega
  have HR0 : Hid (R1 w ((w.alloc (.cells #[.pointer (some ⟨b, o, none⟩)] 61)).alloc (.map #[] 0)) w.heap.size (w.heap.size + 1) (w.heap.size + 2) (.pointer (some ⟨b, o, none⟩)) [] (fun _ => .slice none 0 0) (.slice none 0 0) []) := Lib.hid (by
    have e : (w.alloc (.cells #[.pointer (some ⟨b, o, none⟩)] 61)).heap.size = w.heap.size + 1 := by simp
    refine ⟨?_, OwnInts.nil _ _, by simp [Value.ownBlock], ⟨List.nodup_nil, fun k => by simp [flowOf]⟩, ((Below.refl _ _).alloc (Nat.le_refl _) _).alloc (by simp) _, (BlockAt.new w _ [.pointer (some ⟨b, o, none⟩)]).alloc _, by omega, by omega, by simp, by omega⟩
    have := MR.new (w.alloc (.cells #[.pointer (some ⟨b, o, none⟩)] 61)) (w.heap.size + 2) (by rw [e]; omega)
    rwa [e] at this)
  clear hi ho hn k1 k2
  go_enter Try.func31, Try.ntmps31
  go_wp2_with fail
  obtain ⟨W1, hW1⟩ : ∃ W, ((w.alloc (.cells #[.pointer (some ⟨b, o, none⟩)] 61)).alloc (.map #[] 0)) = W := ⟨_, rfl⟩
  obtain ⟨s, hs⟩ : ∃ s, w.heap.size = s := ⟨_, rfl⟩
  obtain ⟨M, hM⟩ : ∃ M, s + 1 = M := ⟨_, rfl⟩
  obtain ⟨lo, hlo⟩ : ∃ M, s + 2 = M := ⟨_, rfl⟩
  have HSW := Lib.hid hs
  rw [hW1, hs, hM, hlo] at HR0
  rw [hW1, hs, hM]
  clear hW1 hs hM hlo k0 eb eb2 hmm
  go_loopw [6, 17] (fun kv i wr => ∃ (j : Nat) (K : List Int) (vf : Int → Value), (j : Int) ≤ n ∧ i = .int .i64 j ∧ Hid (R1 w wr s M lo (.pointer (some ⟨b, o, none⟩)) (l.take j) vf kv K)) (fun _ i _ => n - (intOf i).toNat)
  case atStart => exact ⟨0, [], _, by omega, rfl, HR0⟩
  case round =>
    obtain ⟨j, K, vf, hj, rfl, HR⟩ := hrel
    have HST := Lib.hid (show s < lo ∧ w.heap.size ≤ M ∧ s ≠ M from ⟨HR.out.slo, HR.out.wlo, HR.out.sm⟩)
    clear HR0
    by_cases hlt : (j : Int) < n
    · have j0 : (0 : Int) ≤ j := by omega
      go_upto_block 1 with fail
      go_cut [6] (fun kv wx => ∃ K' vf', Hid (R1 w wx s M lo (.pointer (some ⟨b, o, none⟩)) (l.take (j + 1)) vf' kv K'))
      case rest =>
        obtain ⟨K', vf', HR2⟩ := hcut
        clear HR
        go_wp2_with fail
        go_roundw
        case rel => exact ⟨j + 1, K', vf', by omega, by go_num, HR2⟩
        case measure => simp [intOf] <;> omega
      case first =>
      obtain ⟨x, hx⟩ : ∃ x, l[j]? = some x := ⟨l[j]'(by rw [HN.out]; omega), by simp⟩
      have HX := Lib.hid hx
      obtain ⟨g, rfl, hin, hnc, hcm⟩ : ∃ g, ao = some ⟨g, 0, none⟩ ∧ ItemsIn w g l ∧ l.length ≤ cap ∧ cap ≤ maxLen := by
        rcases HI.out with h | h
        · rw [h] at hx; simp at hx
        · exact h
      obtain ⟨c0, c1, c2⟩ := (hin.keep (Upd.ofBelow HR.out.below) (by simp)) j x hx
      obtain ⟨xi, xp, xf⟩ := x
      dsimp only at c0 c1 c2
      have HRA : Hid (R1 w (wr.alloc (.cells #[.int .i64 xi, .int .i64 xp, .int .i64 xf] 27)) s M lo (.pointer (some ⟨b, o, none⟩)) (l.take j) vf _ K) := Lib.hid (HR.out.next (Upd.alloc [] _ _))
      have HXA : Hid (BlockAt (wr.alloc (.cells #[.int .i64 xi, .int .i64 xp, .int .i64 xf] 27)) wr.heap.size 27 [.int .i64 xi, .int .i64 xp, .int .i64 xf]) := Lib.hid (BlockAt.new _ _ _)
      have hlk := HRA.out.mr.look xf
      obtain ⟨m, hm⟩ : ∃ m, (flowOf (l.take j) xf).length = m := ⟨_, rfl⟩
      obtain ⟨fa, fcap, hvf⟩ : ∃ fa fcap, vf xf = .slice fa m fcap := by
        rcases (HRA.out.mr.own xf).2 with ⟨hv, h0⟩ | ⟨g, cap, cur, hv, -⟩
        · exact ⟨_, _, by rw [hv, ← hm, h0]⟩
        · exact ⟨_, _, by rw [hv, hm]⟩
      rw [hvf] at hlk
      have HMV := Lib.hid (And.intro hm hvf)
      have HXO : Hid ((∀ g, _ = some g → g < wr.heap.size) ∧ ∀ k g, (vf k).ownBlock = some g → g < wr.heap.size) := Lib.hid ⟨fun g hg => (HR.out.keys.lt g hg).2, fun k g hg => ((HR.out.mr.own k).lt g hg).2⟩
      have HXN := Lib.hid (show wr.heap.size ≠ s ∧ wr.heap.size ≠ M ∧ lo ≤ wr.heap.size from ⟨by have := HR.out.box.lt; omega, by have := HR.out.mr.low; have := HR.out.top; omega, HR.out.top⟩)
      clear hx hin hnc hcm hm hvf
      go_upto_if 26 with fail
      obtain ⟨W, hW⟩ : ∃ W, wr.alloc (.cells #[.int .i64 xi, .int .i64 xp, .int .i64 xf] 27) = W := ⟨_, rfl⟩
      obtain ⟨X, hXX⟩ : ∃ X, wr.heap.size = X := ⟨_, rfl⟩
      rw [hW, hXX] at HXA
      rw [hW] at HRA hlk
      rw [hXX] at HXN HXO
      rw [hW, hXX]
      clear hW hXX HR c0 c1 c2
      go_cut [6] (fun kv wx => ∃ K', Hid (MR wx M lo (flowOf (l.take j)) vf ∧ OwnInts lo wx kv K' ∧ (∀ g, kv.ownBlock = some g → ∀ k, (vf k).ownBlock ≠ some g) ∧ Below w.heap.size w wx ∧ BlockAt wx s 61 [.pointer (some ⟨b, o, none⟩)] ∧ lo ≤ wx.heap.size) ∧ Hid (KeysOk (l.take (j + 1)) K') ∧ Hid (BlockAt wx X 27 [.int .i64 xi, .int .i64 xp, .int .i64 xf]))
      case first =>
        by_cases h0 : m = 0
        · subst h0
          have hnil : flowOf (l.take j) xf = [] := List.eq_nil_of_length_eq_zero HMV.out.1
          have HKO : Hid (KeysOk (l.take (j + 1)) (K ++ [xf])) := Lib.hid (HRA.out.ok.new HX.out hnil)
          have c2 := HXA.out.cell 2 _ rfl
          have hkl := HRA.out.ok.len
          have hkl2 : K.length + 1 ≤ maxLen ∧ (K.length + 1) * 8 ≤ 140737488355328 ∧ lo ≤ W.heap.size := by
            rw [List.length_take] at hkl
            have := HRA.out.top
            unfold maxLen
            omega
          have HKL := Lib.hid hkl2
          clear hnil hkl hkl2 hlk
          go_wp2_with (at_builtin; go_loud (refine wpList_append_put W rfl (.tmp 27) (.tmp 30) 22 rfl lo 3 1 8 Try.infoInt (by kernel_rfl) rfl (by decide) u6 K.length (K.map (Value.int .i64)) rfl HRA.out.keys [Value.int .i64 xf] rfl rfl rfl HKL.out.1 HKL.out.2.1 HKL.out.2.2 ?_))
          intro g' cap' w2 hown hu hg
          have hkey := HRA.out.key hu (kv' := .slice (some ⟨g', 0, none⟩) (K.length + 1) cap') (K' := K ++ [xf]) (OwnInts.of hown (by simp) (by simp)) rfl hg
          have HKEY := Lib.hid hkey
          have HX2 := Lib.hid (HXA.out.keep hu (by
            intro hh; simp at hh
            have := HXO.out.1 X hh; omega))
          clear hown hu hg hkey c2
          go_wp2_with fail
          go_meet
          exact ⟨_, HKEY, HKO, HX2⟩
        · have hne : flowOf (l.take j) xf ≠ [] := fun hh => h0 (by have := HMV.out.1; rw [hh] at this; simpa using this.symm)
          have HKO : Hid (KeysOk (l.take (j + 1)) K) := Lib.hid (HRA.out.ok.old HX.out hne)
          have hd : ((m : Int) == 0) = false := by simp; omega
          clear hne hlk
          go_wp2_with fail
          go_meet
          exact ⟨K, Lib.hid ⟨HRA.out.mr, HRA.out.keys, HRA.out.ka, HRA.out.below, HRA.out.box, HRA.out.top⟩, HKO, HXA⟩
      case rest =>
        obtain ⟨K', HC, HKO, HXC⟩ := hcut
        clear HXA HRA hlk
        have c0 := HXC.out.cell 0 _ rfl
        have c1 := HXC.out.cell 1 _ rfl
        have c2 := HXC.out.cell 2 _ rfl
        have hlk : (Instr.lookup 70 (.map (some M)) (.int .i64 xf) false).run Try.prog wc.drew = .ok (vf xf) wc.drew := (HC.out.1.next (Upd.drew [] _)).look xf
        rw [HMV.out.2] at hlk
        have HOWN : Hid (∀ W', Upd [] wc W' → W'.ownsRow lo 27 3 (.slice fa m fcap) m (cellsI (flowOf (l.take j) xf))) := Lib.hid (fun W' hu => by
          have := (HC.out.1.next hu).own xf
          rwa [HMV.out.1, HMV.out.2] at this)
        have HMRB : Hid (MR (wc.alloc (.cells #[.int .i64 xi, .int .i64 xp, .int .i64 xf] 27)).drew M lo (flowOf (l.take j)) vf) := Lib.hid (HC.out.1.next ((Upd.alloc [] _ _).trans (Upd.drew [] _)))
        have HCN : Hid (∀ j u, [Value.int .i64 xi, .int .i64 xp, .int .i64 xf][j]? = some u → (wc.alloc (.cells #[.int .i64 xi, .int .i64 xp, .int .i64 xf] 27)).drew.cell? ((⟨wc.heap.size, 0, none⟩ : Addr).add j) = some u) := Lib.hid (cells_new wc 27 [.int .i64 xi, .int .i64 xp, .int .i64 xf])
        have HBD : Hid (m + 1 ≤ maxLen ∧ (m + 1) * 24 ≤ 140737488355328 ∧ lo ≤ (wc.alloc (.cells #[.int .i64 xi, .int .i64 xp, .int .i64 xf] 27)).drew.heap.size) := Lib.hid (by
          have h1 := HMV.out.1
          have h2 : (flowOf (l.take j) xf).length ≤ (l.take j).length := List.length_filter_le _ _
          rw [List.length_take] at h2
          have h3 := HC.out.2.2.2.2.2
          refine ⟨by unfold maxLen; omega, by omega, ?_⟩
          show lo ≤ (wc.alloc _).heap.size
          simp; omega)
        have hlk2 : (Instr.lookup 70 (.map (some M)) (.int .i64 xf) false).run Try.prog (wc.alloc (.cells #[.int .i64 xi, .int .i64 xp, .int .i64 xf] 27)).drew = .ok (vf xf) (wc.alloc (.cells #[.int .i64 xi, .int .i64 xp, .int .i64 xf] 27)).drew := HMRB.out.look xf
        rw [HMV.out.2] at hlk2
        have e2 := (HXC.out.alloc (.cells #[.int .i64 xi, .int .i64 xp, .int .i64 xf] 27)).cell 2 _ rfl
        have HXK : Hid (∀ w1, Upd (Value.slice fa m fcap).ownBlock.toList (wc.alloc (.cells #[.int .i64 xi, .int .i64 xp, .int .i64 xf] 27)).drew w1 → BlockAt w1 X 27 [.int .i64 xi, .int .i64 xp, .int .i64 xf]) := Lib.hid (fun w1 hu => (((HXC.out.alloc _).drew).keep hu (by
          intro hh; simp at hh
          have := HXO.out.2 xf X (by rw [HMV.out.2]; exact hh); omega)))
        go_wp2_with fail
        have HFL : Hid (flowOf (l.take (j + 1)) = setC (flowOf (l.take j)) xf (flowOf (l.take j) xf ++ [⟨xi, xp, xf⟩])) := Lib.hid (flowOf_next HX.out)
        have HFIN : Hid (∀ g' cap' w1, World.ownsRow w1 lo 27 3 (.slice (some ⟨g', 0, none⟩) (m + 1) cap') (m + 1) (cellsI (flowOf (l.take j) xf) ++ [.int .i64 xi, .int .i64 xp, .int .i64 xf]) →
            Upd (Value.slice fa m fcap).ownBlock.toList (wc.alloc (.cells #[.int .i64 xi, .int .i64 xp, .int .i64 xf] 27)).drew w1 → ((Value.slice fa m fcap).ownBlock = some g' ∨ (wc.alloc (.cells #[.int .i64 xi, .int .i64 xp, .int .i64 xf] 27)).drew.heap.size ≤ g') →
            ∃ w2, (Instr.mapUpdate 70 (.map (some M)) (.int .i64 xf) (.slice (some ⟨g', 0, none⟩) (m + 1) cap')).run Try.prog w1 = .ok () w2 ∧ w1.cell? ⟨X, 2, none⟩ = some (.int .i64 xf) ∧ R1 w w2 s M lo (.pointer (some ⟨b, o, none⟩)) (l.take (j + 1)) (setC vf xf (.slice (some ⟨g', 0, none⟩) (m + 1) cap')) u6 K') := Lib.hid (fun g' cap' w1 hown1 hu1 hg1 => by
          obtain ⟨w2, hst, hmr2, hu2⟩ := HMRB.out.store xf (by rw [HMV.out.2]; exact hu1) (v' := .slice (some ⟨g', 0, none⟩) (m + 1) cap') (y := flowOf (l.take j) xf ++ [⟨xi, xp, xf⟩]) HBD.out.2.2 (by rw [cellsI_append, List.length_append, HMV.out.1]; exact hown1) rfl (by rw [HMV.out.2]; exact hg1)
          exact ⟨w2, hst, (HXK.out w1 hu1).cell 2 _ rfl, R1.row HC.out.1 HC.out.2.1 HC.out.2.2.1 HC.out.2.2.2.1 HC.out.2.2.2.2.1 HC.out.2.2.2.2.2 HST.out ((Upd.alloc [] _ _).trans (Upd.drew [] _)) (by rw [HMV.out.2]; exact hu1) hmr2 HFL.out hu2 rfl (by rw [HMV.out.2]; exact hg1) HKO.out⟩)
        go_region_law (refine step_append_own rfl (.tmp 38) (.tmp 40) 37 rfl lo 27 i0 _ 3 24 Try.underlying37 hi0 hz0 hz1 hz2 rfl (by decide) (.slice fa m fcap) m (cellsI (flowOf (l.take j) xf)) (by simp [Act.eval, Act.put]) (HOWN.out _ ((Upd.alloc [] _ _).trans (Upd.drew [] _))) ⟨wc.heap.size, 0, none⟩ 1 1 [.int .i64 xi, .int .i64 xp, .int .i64 xf] (by simp [Act.eval, Act.put]) (by decide) rfl HCN.out (by simp [Value.oneCell']) HBD.out.1 HBD.out.2.1 HBD.out.2.2 ?_; intro g' cap' w1 hown1 hu1 hg1; obtain ⟨w2, hst, d2, hr2⟩ := HFIN.out g' cap' w1 hown1 hu1 hg1; have HR2 := Lib.hid hr2; clear hown1 hu1 hg1 hr2)
        all_goals go_wp2_with fail
        all_goals
          go_meet
          exact ⟨K', _, HR2⟩
    · obtain rfl : j = n := by omega
      have hmz : l.take j = l := by rw [← HN.out]; simp
      rw [hmz] at HR
      have hkl := HR.out.ok.len
      have CS := Lib.hid (sortK_any lo u6 K wr HR.out.keys (by have := HN.out; omega))
      clear hlt hj hmz
      go_wp2_with fail
      refine CS.out.mono ?_
      rintro e w2 ⟨rfl, hk2, hu2⟩
      obtain ⟨Ks, hKs⟩ : ∃ Ks, (K.mergeSort fun x y => decide (x ≤ y)) = Ks := ⟨_, rfl⟩
      have hperm : Ks.Perm K := by rw [← hKs]; exact List.mergeSort_perm _ _
      have hsort : Ks.Pairwise (· < ·) := by
        have h1 : Ks.Pairwise (fun a b => decide (a ≤ b) = true) := by
          rw [← hKs]
          exact List.pairwise_mergeSort (le := fun x y => decide (x ≤ y)) (fun a b c h1 h2 => by simp at *; omega) (fun a b => by simp; omega) K
        have h2 : Ks.Nodup := hperm.nodup_iff.2 HR.out.ok.1
        exact (List.pairwise_and_iff.2 ⟨h1, h2⟩).imp (fun {a b} h => by have h3 := h.1; have h4 := h.2; simp at h3; omega)
      have hmem : ∀ k, k ∈ Ks ↔ flowOf l k ≠ [] := fun k => by rw [hperm.mem_iff]; exact HR.out.ok.2 k
      rw [hKs] at hk2
      have hlo2 : ∀ q, q ∈ u6.ownBlock.toList → lo ≤ q := fun q hq => by simp at hq; exact (HR.out.keys.lt q hq).1
      have hwlo : w.heap.size ≤ lo := by have := HR.out.wlo; have := HR.out.mr.low; omega
      have hb2 : Below w.heap.size w w2 := HR.out.below.trans (hu2.below HR.out.below.size (fun q hq => by have := hlo2 q hq; omega))
      have hbox := HR.out.box.keep hu2 (fun hh => by have := hlo2 _ hh; have := HR.out.slo; omega)
      have hlow := HR.out.mr.low
      have HR2 : Hid (R2 w w2 base M lo ov (flowOf l) vf u6 Ks ov acc) := Lib.hid (by
        have u2 : Upd [] w w2 := Upd.ofBelow hb2
        have hmr : MR w2 M lo (flowOf l) vf := HR.out.mr.keep hu2 (fun hh => by have := hlo2 _ hh; omega) (fun k g hg hh => by simp at hh; exact HR.out.ka g hh k hg)
        have hov : ∀ g, ov.ownBlock = some g → g < w.heap.size := fun g hg => (HO.out.lt g hg).2
        have hwM := HR.out.wlo
        refine ⟨hmr.at_, fun k => SliceIs.of (hmr.own k), fun k g _ hg => ?_, hk2, fun g hg hh => ?_, hlow, u2.owns HO.out (by simp), fun hh => by have := hov M hh; omega, Nat.le_trans hbase u2.size, u2.mono (by simp), fun g hg => .inl hg, hwM, hwlo⟩
        · have h1 := (hmr.own k).lt g hg
          exact ⟨by omega, fun hh => HR.out.ka g hh k hg, fun hh => by have := hov g hh; omega⟩
        · have := hov g hh; have := (HR.out.keys.lt g hg).1; omega)
      have HKK := Lib.hid (And.intro hsort hmem)
      have b0 := hbox.cell 0 _ rfl
      have t1 := (Upd.ofBelow hb2).cell HK.out.2.1 (by simp)
      have t2 := (Upd.ofBelow hb2).cell HK.out.2.2 (by simp)
      have CI := Lib.hid (fun h => idxK_any lo u6 Ks last s b o w2 hk2 h b0 t2)
      have hksl : (Ks.length : Int) ≤ 1000000 := by have := hperm.length_eq; have := HN.out; omega
      have HKL := Lib.hid hksl
      clear hk2 hu2 hKs hperm hsort hmem hlo2 hb2 hbox hlow hwlo HR CS hkl hksl
      go_upto_if 48 with fail
      go_cut [9] (fun a wx => ∃ a', a = .int .i64 a' ∧ Hid (AtOk Ks tk last a') ∧ wx = w2)
      case first =>
        cases tk with
        | true =>
          go_wp2_with fail
          refine (CI.out HKL.out).mono ?_
          rintro e w3 ⟨⟨a, rfl, ha⟩, rfl⟩
          have HA := Lib.hid (AtOk.of ha)
          clear ha
          go_wp2_with fail
          go_meet
          exact ⟨a, rfl, HA, rfl⟩
        | false =>
          go_wp2_with fail
          go_meet
          exact ⟨0, rfl, Lib.hid (.inl ⟨.inr (.inr rfl), fun k _ hh => by cases hh.1⟩), rfl⟩
      case rest =>
        obtain ⟨a0, rfl, HA, rfl⟩ := hcut
        have HRI : Hid (RI l tk last Ks (flowOf l) a0 []) := Lib.hid (RI.start HKK.out.1 HKK.out.2 HA.out)
        have HOL : Hid (∃ fa fcap, ov = .slice fa acc.length fcap) := Lib.hid (by
          rcases HO.out.2 with ⟨hv, h0⟩ | ⟨g, cap, cur, hv, -⟩
          · exact ⟨_, _, by rw [h0]; exact hv⟩
          · exact ⟨_, _, hv⟩)
        clear HA CI HKL HKK b0 t1 t2
        go_wp2_with fail
        go_loopw [1, 6, 9] (fun ov' kv a wx => ∃ (c : Int → List It) (vf : Int → Value) (K : List Int) (accs : List It) (a' : Int) (fa : Option Addr) (fcap m : Nat), a = .int .i64 a' ∧ ov' = .slice fa m fcap ∧ m = acc.length + accs.length ∧ Hid (R2 w wx base M lo ov c vf kv K ov' (acc ++ accs)) ∧ Hid (RI l tk last K c a' accs)) (fun ov' _ _ _ => (acc.length + j) - lenOf ov')
        case atStart =>
          obtain ⟨fa, fcap, hv⟩ := HOL.out
          exact ⟨flowOf l, vf, Ks, [], a0, fa, fcap, acc.length, rfl, hv, by simp, by simpa using HR2, HRI⟩
        case round =>
          obtain ⟨c, vf, K, accs, a', fa, fcap, m, rfl, rfl, hm, HR, HI2⟩ := hrel
          have HM := Lib.hid hm
          clear HR2 HRI HOL hm
          rcases HR.out.keys.read with ⟨rfl, rfl⟩ | ⟨gk, kcap, rfl, hk0, hk1, hk2, hk3, hk4⟩
          · have HD := Lib.hid HI2.out.done
            go_wp2_with fail
            go_ret
            exact ⟨accs, _, HD.out, rfl, HR.out.out, HR.out.upd, HR.out.os⟩
          · by_cases hK : K = []
            · subst hK
              have HD := Lib.hid HI2.out.done
              clear hk4
              go_wp2_with fail
              go_ret
              exact ⟨accs, _, HD.out, rfl, HR.out.out, HR.out.upd, HR.out.os⟩
            · have hlen := HI2.out.len hK
              obtain ⟨nk, hnk⟩ : ∃ nk, K.length = nk := ⟨_, rfl⟩
              have hnk0 : 0 < nk := by have := List.length_pos_iff.2 hK; omega
              obtain ⟨i, hi⟩ : ∃ i, norm K a' = i := ⟨_, rfl⟩
              have hin : i < nk := by rw [← hi, ← hnk]; unfold norm; split <;> omega
              obtain ⟨f, hf⟩ : ∃ f, K[i]? = some f := ⟨K[i]'(by omega), by simp⟩
              obtain ⟨x, rest, hc, hxf⟩ := HI2.out.flow hf
              have HSTEP := Lib.hid (HI2.out.step hi hf hc)
              have HNK := Lib.hid hnk
              have HF := Lib.hid (And.intro hi hf)
              have HC := Lib.hid (And.intro hc hxf)
              have hkc := hk4 i f hf
              rw [hnk] at hk2 HR ⊢
              have HKM := Lib.hid hk3
              have HLN := Lib.hid hlen
              clear hk4 hK hc hxf hf hnk hk0 hk1 hk3
              go_upto_block 3 with fail
              go_step
              go_step
              go_cut [9] (fun a wx => a = .int .i64 (i : Int) ∧ wx = wr)
              case first =>
                have hcase : (a' < 0 ∧ i = 0) ∨ (0 ≤ a' ∧ (nk : Int) ≤ a' ∧ i = 0) ∨ (0 ≤ a' ∧ a' < (nk : Int) ∧ a' = (i : Int)) := by
                  have h1 := HF.out.1
                  have h2 := HNK.out
                  unfold norm at h1
                  split at h1 <;> omega
                rcases hcase with ⟨h1, rfl⟩ | ⟨h1, h2, rfl⟩ | ⟨h1, h2, rfl⟩
                · go_wp2_with fail
                  go_meet
                  exact ⟨rfl, rfl⟩
                · go_wp2_with fail
                  go_meet
                  exact ⟨rfl, rfl⟩
                · go_wp2_with fail
                  go_meet
                  exact ⟨rfl, rfl⟩
              case rest =>
                obtain ⟨rfl, rfl⟩ := hcut
                obtain ⟨fg, fo, fc, hvf, hfc, hfm, hfx⟩ : ∃ g o cap, vf f = .slice (some ⟨g, o, none⟩) (rest.length + 1) cap ∧ rest.length + 1 ≤ cap ∧ cap ≤ maxLen ∧ ∀ k y, (x :: rest)[k]? = some y → wc.cell? ⟨g, o + k * 3, none⟩ = some (.int .i64 y.id) ∧ wc.cell? ⟨g, o + k * 3 + 1, none⟩ = some (.int .i64 y.prio) ∧ wc.cell? ⟨g, o + k * 3 + 2, none⟩ = some (.int .i64 y.flow) := by
                  obtain ⟨ao, cap, hv, hh⟩ := HR.out.rows f
                  rw [HC.out.1] at hv hh
                  rcases hh with hh | ⟨g, o, rfl, h1, h2, h3⟩
                  · cases hh
                  · exact ⟨g, o, cap, hv, h1, h2, h3⟩
                have hlk := HR.out.look f
                rw [hvf] at hlk
                obtain ⟨x0, x1, x2⟩ := hfx 0 x rfl
                rw [Nat.zero_mul, Nat.add_zero] at x0 x1 x2
                obtain ⟨A, hA⟩ : ∃ A : Addr, (if fc = 1 then some (⟨fg, fo, none⟩ : Addr) else some ⟨fg, fo + 3, none⟩) = some A := by
                  split <;> exact ⟨_, rfl⟩
                obtain ⟨nr, hnr⟩ : ∃ nr, rest.length = nr := ⟨_, rfl⟩
                have HFX := Lib.hid (And.intro hvf (And.intro hfc (And.intro hfm (And.intro hfx (And.intro hA hnr)))))
                rw [hnr] at hlk hfc
                have hfm' : (fc : Int) ≤ 9223372036854775807 := by unfold maxLen at hfm; omega
                have i0' : (0 : Int) ≤ i := by omega
                have i1' : (i : Int) < nk := by omega
                have i2' : (i : Int) + 1 ≤ 9223372036854775807 := by have := HKM.out; unfold maxLen at this; omega
                have HOWN : Hid (wc.ownsRow base 27 3 (.slice fa m fcap) m (cellsI (acc ++ accs))) := Lib.hid (by
                  have := HR.out.out
                  rwa [List.length_append, ← HM.out] at this)
                have HBD : Hid (m + 1 ≤ maxLen ∧ (m + 1) * 24 ≤ 140737488355328 ∧ base ≤ wc.heap.size) := Lib.hid (by
                  have h1 := HLN.out
                  have h2 := HN.out
                  have h3 := HM.out
                  exact ⟨by unfold maxLen; omega, by omega, HR.out.base_le⟩)
                have HPUT : Hid (∀ g' cap' w1, World.ownsRow w1 base 27 3 (.slice (some ⟨g', 0, none⟩) (m + 1) cap') (m + 1) (cellsI (acc ++ accs) ++ [.int .i64 x.id, .int .i64 x.prio, .int .i64 x.flow]) → Upd (Value.slice fa m fcap).ownBlock.toList wc w1 → ((Value.slice fa m fcap).ownBlock = some g' ∨ wc.heap.size ≤ g') →
                    R2 w w1 base M lo ov c vf (.slice (some ⟨gk, 0, none⟩) nk kcap) K (.slice (some ⟨g', 0, none⟩) (m + 1) cap') (acc ++ (accs ++ [x])) ∧
                    ∃ w2, (Instr.mapUpdate 70 (.map (some M)) (.int .i64 f) (.slice (some A) nr (fc - 1))).run Try.prog w1 = .ok () w2 ∧ R2 w w2 base M lo ov (setC c f rest) (setC vf f (.slice (some A) nr (fc - 1))) (.slice (some ⟨gk, 0, none⟩) nk kcap) K (.slice (some ⟨g', 0, none⟩) (m + 1) cap') (acc ++ (accs ++ [x]))) := Lib.hid (fun g' cap' w1 h1 h2 h3 => by
                  have hp := HR.out.put h2 (ov' := .slice (some ⟨g', 0, none⟩) (m + 1) cap') (acc' := acc ++ (accs ++ [x])) (by
                    rw [← List.append_assoc, List.length_append, List.length_append, ← HM.out, cellsI_append]; exact h1) rfl h3
                  refine ⟨hp, ?_⟩
                  obtain ⟨hv, hc1, hc2, hc3, hA, hnr⟩ := HFX.out
                  have hrow := hp.rows f
                  rw [HC.out.1] at hrow
                  obtain ⟨ao, cap, hv2, hh⟩ := hrow
                  rw [hv] at hv2
                  cases hv2
                  rcases hh with hh | ⟨g, o, hgo, h1, h2, h3⟩
                  · cases hh
                  · cases hgo
                    obtain ⟨hs, hAb⟩ := SliceIs.tail h1 h2 h3 hA
                    rw [hnr] at hs
                    obtain ⟨w2, e1, e2⟩ := hp.store f hs (by rw [HC.out.1]; simp) (fun _ => by rw [hv]; simp [Value.ownBlock, hAb])
                    exact ⟨w2, e1, e2⟩)
                obtain ⟨xi, xp, xf⟩ := x
                dsimp only at x0 x1 x2 HPUT
                clear hvf hfx hfm hnr
                go_wp2_with (at_builtin; go_loud (refine wpList_append_put wc rfl (.tmp 67) (.tmp 73) 37 rfl base 27 3 24 Try.infoItem Try.underlying37 rfl (by decide) (.slice fa m fcap) m (cellsI (acc ++ accs)) rfl HOWN.out [.int .i64 xi, .int .i64 xp, .int .i64 xf] rfl rfl rfl HBD.out.1 HBD.out.2.1 HBD.out.2.2 ?_))
                intro g' cap' w1 hown1 hu1 hg1
                obtain ⟨hp, w2, hst, hp2⟩ := HPUT.out g' cap' w1 hown1 hu1 hg1
                have hlk1 := hp.look f
                rw [HFX.out.1, HFX.out.2.2.2.2.2] at hlk1
                have hlk2 := hp2.look f
                rw [setC_same] at hlk2
                have HP2 := Lib.hid hp2
                have CD := Lib.hid (delK_any lo i (.slice (some ⟨gk, 0, none⟩) nk kcap) K f w2 hp2.keys HF.out.2)
                have HML := Lib.hid (show m + 1 = acc.length + (accs ++ [(⟨xi, xp, xf⟩ : It)]).length ∧ m + 1 ≤ acc.length + j by
                  have h1 := HLN.out
                  have h2 := HN.out
                  have h3 := HM.out
                  refine ⟨by simp; omega, by omega⟩)
                clear hown1 hu1 hg1 hp hp2 HPUT HOWN HBD hlk x0 x1 x2
                by_cases hr : rest = []
                · have hr0 : nr = 0 := by rw [← HFX.out.2.2.2.2.2, hr]; rfl
                  subst hr0
                  have HI3 : Hid (RI l tk last (K.eraseIdx i) (setC c f rest) (i : Int) (accs ++ [⟨xi, xp, xf⟩])) := Lib.hid (HSTEP.out.1 hr)
                  clear hr
                  go_wp2_with fail
                  refine CD.out.mono ?_
                  rintro e w3 ⟨kv', rfl, hk3, hkb, hu3⟩
                  have HP3 := Lib.hid (HP2.out.key hu3 hk3 hkb)
                  clear hk3 hkb hu3 CD hlk1 hlk2 hst
                  go_wp2_with fail
                  go_roundw
                  case rel => exact ⟨setC c f rest, _, K.eraseIdx i, accs ++ [⟨xi, xp, xf⟩], (i : Int), some ⟨g', 0, none⟩, cap', m + 1, rfl, rfl, HML.out.1, HP3, HI3⟩
                  case measure => have := HML.out.2; simp [lenOf] <;> omega
                · have hr0 : ((nr : Int) == 0) = false := by
                    simp
                    rintro rfl
                    exact hr (List.eq_nil_of_length_eq_zero HFX.out.2.2.2.2.2)
                  have HI3 : Hid (RI l tk last K (setC c f rest) ((i : Int) + 1) (accs ++ [⟨xi, xp, xf⟩])) := Lib.hid (HSTEP.out.2 hr)
                  clear hr CD
                  go_wp2_with fail
                  go_roundw
                  case rel => exact ⟨setC c f rest, _, K, accs ++ [⟨xi, xp, xf⟩], (i : Int) + 1, some ⟨g', 0, none⟩, cap', m + 1, rfl, rfl, HML.out.1, HP2, HI3⟩
                  case measure => have := HML.out.2; simp [lenOf] <;> omega
end Go.Proofs.Ytapoikegoknlcaa
