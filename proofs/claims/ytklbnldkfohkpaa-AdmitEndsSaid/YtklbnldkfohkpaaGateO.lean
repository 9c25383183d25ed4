/- Layer 23: those that go on are under way, and waited. -/
import Derived.Test.YtklbnldkfohkpaaGateN
import Derived.StillTailTactics
import Derived.Deep.CutBlock
import Derived.Deep.DeepCutAuto
namespace Go.Proofs.Ytklbnldkfohkpaa
open Go.RowKit
def I64s (l : List Int) : Prop := ∀ z ∈ l, -9223372036854775808 ≤ z ∧ z ≤ 9223372036854775807
theorem I64s.less {l : List Int} (h : I64s l) (n : Int) : I64s (lessOf l n) := fun z hz => h z (List.mem_filter.1 hz).1
theorem I64s.foldl {ids : List Int} : ∀ {l : List Int}, I64s l → I64s (ids.foldl lessOf l) := by
  induction ids with
  | nil => exact fun h => h
  | cons a ids ih => exact fun h => ih (h.less a)
theorem less_len (l : List Int) (n : Int) : (lessOf l n).length ≤ l.length := List.length_filter_le _ _
theorem fold_len (ids : List Int) : ∀ (l : List Int), (ids.foldl lessOf l).length ≤ l.length := by
  induction ids with
  | nil => exact fun l => Nat.le_refl _
  | cons a ids ih => exact fun l => Nat.le_trans (ih _) (less_len l a)
theorem OwnInts.same {base : Nat} {w w' : World} {v : Value} {zs : List Int} (h : OwnInts base w v zs) (hs : ∀ k, v.ownBlock = some k → w'.heap[k]? = w.heap[k]?) : OwnInts base w' v zs := by
  refine ⟨h.1, ?_⟩
  rcases h.2 with hh | ⟨gg, cc, cur, hv, hb, hgg, rest⟩
  · exact .inl hh
  · exact .inr ⟨gg, cc, cur, hv, hb, by rw [hs gg (by rw [hv]; rfl)]; exact hgg, rest⟩
theorem OwnInts.under {w : World} {base : Nat} {w' : World} {v : Value} {zs : List Int} (h : OwnInts base w' v zs) (hb : w.heap.size ≤ base) : ∀ g, v.ownBlock = some g → w.heap.size ≤ g := fun g hg => Nat.le_trans hb (h.lt g hg).1
theorem take_snoc {α : Type} {l : List α} {q : Nat} {z : α} (h : l[q]? = some z) : l.take (q + 1) = l.take q ++ [z] := by rw [List.take_add_one, h]; rfl
theorem drop_at {α : Type} {l : List α} {q : Nat} {z : α} (h : l[q]? = some z) : l.drop q = z :: l.drop (q + 1) := by
  obtain ⟨hq, rfl⟩ := List.getElem?_eq_some_iff.1 h
  exact List.drop_eq_getElem_cons hq
structure OnI (base pb : Nat) (us ws os ids : List Int) (S : List Nat) (w : World) (q : Nat) (wr : World) : Prop where
  pl : PlAt base wr pb (us ++ ids.take q) ((ids.take q).foldl lessOf ws) os S
  ok : OnOk ((ids.take q).foldl lessOf ws) (ids.drop q)
  st : QStep base S w wr
set_option maxHeartbeats 2000000 in
theorem on_any (base b0 pb : Nat) (us ws os ids : List Int) (S : List Nat) (vl : Value) (w : World) (h : PlAt base w pb us ws os S) (hl : OwnInts b0 w vl ids) (hlS : ∀ k, vl.ownBlock = some k → k ∈ S) (hok : OnOk ws ids) (hi : I64s ids) (hw : I64s ws) (hul : (us.length : Int) + ids.length ≤ 10000) (hwl : (ws.length : Int) ≤ 10000) :
    Calls Try.prog 24 #[.pointer (some ⟨pb, 0, none⟩), vl] w fun e w' => e = .returned (.bool true) ∧ PlAt base w' pb (us ++ ids) (ids.foldl lessOf ws) os S ∧ QStep base S w w' := by
  have HI0 : Hid (OnI base pb us ws os ids S w 0 w) := Lib.hid ⟨by simpa using h, by simpa using hok, QStep.refl _ _ _⟩
  obtain ⟨ao, cap, rfl⟩ := own_len hl
  obtain ⟨N, hN⟩ : ∃ N, ids.length = N := ⟨_, rfl⟩
  have HN := Lib.hid hN
  have HL := Lib.hid (And.intro hl hlS)
  have HR := Lib.hid (And.intro hi hw)
  have HLEN := Lib.hid (And.intro hul hwl)
  have HNB : Hid ((N : Int) ≤ 10000) := Lib.hid (by omega)
  rw [hN] at HLEN ⊢
  clear h hok hl hlS hi hw hul hwl hN
  go_enter Try.func24, Try.ntmps24
  go_wp2_with fail
  go_loopw [5] (fun i wr => ∃ q : Nat, q ≤ N ∧ i = .int .i64 q ∧ Hid (OnI base pb us ws os ids S w q wr)) (fun i _ => N - (intOf i).toNat)
  case atStart => exact ⟨0, by omega, rfl, HI0⟩
  case round =>
    obtain ⟨q, hq, rfl, HI⟩ := hrel
    clear HI0
    by_cases hqn : q < N
    · obtain ⟨z, hz⟩ : ∃ z, ids[q]? = some z := ⟨ids[q]'(by rw [HN.out]; exact hqn), by simp [HN.out, hqn]⟩
      have hok := HI.out.ok
      rw [drop_at hz] at hok
      obtain ⟨hzw, hok⟩ := hok
      obtain ⟨vu, vw, vo, hpv, hb, hS⟩ := HI.out.pl
      obtain ⟨W2, hW2⟩ : ∃ W2, (ids.take q).foldl lessOf ws = W2 := ⟨_, rfl⟩
      obtain ⟨U2, hU2⟩ : ∃ U2, us ++ ids.take q = U2 := ⟨_, rfl⟩
      have hWr : I64s W2 := by rw [← hW2]; exact HR.out.2.foldl
      have hWl : (W2.length : Int) ≤ 100000 := by have := fold_len (ids.take q) ws; rw [hW2] at this; have := HLEN.out.2; omega
      have hUl : (U2.length : Int) ≤ 100000 := by
        rw [← hU2, List.length_append, List.length_take]
        have := HLEN.out.1
        omega
      rw [hW2] at hpv hzw hok
      rw [hU2] at hpv
      have hrow : OwnInts b0 wr (.slice ao N cap) ids := by rw [← HN.out]; exact HL.out.1.same (fun k hk => HI.out.st.same k (HL.out.2 k hk))
      obtain ⟨g, rfl, x0⟩ : ∃ g, ao = some ⟨g, 0, none⟩ ∧ wr.cell? ⟨g, q, none⟩ = some (.int .i64 z) := by
        rcases hrow.read with ⟨hh, -⟩ | ⟨g, c2, hv, -, -, -, -, hc⟩
        · rw [hh] at hz; simp at hz
        · cases hv; exact ⟨g, rfl, hc q z hz⟩
      have hgS : g ∈ S := HL.out.2 g rfl
      have c0 := hpv.blk.cell 0 _ rfl
      have c1 := hpv.blk.cell 1 _ rfl
      simp only [three] at c0 c1
      have hwin := (hpv.own 1 (by omega)).isIn hWr
      have CH := Lib.hid (has_any vw W2 z wr.drew hwin hWl)
      simp only [hzw, decide_true] at CH
      have CW := Lib.hid (fun wx (hh : IntsIn wx vw W2) => without_any vw W2 z wx hh hWl)
      have q0 : (0 : Int) ≤ q := by omega
      have q1 : (q : Int) < N := by omega
      have HP := Lib.hid (And.intro hpv (And.intro hb hS))
      have HG := Lib.hid hgS
      have HZ := Lib.hid hz
      have HE := Lib.hid (And.intro hW2 hU2)
      have HOK := Lib.hid hok
      have HUL := Lib.hid hUl
      have HIN := Lib.hid hwin
      have HWR := Lib.hid hWr
      clear hpv hb hS hgS hz hok hzw hrow hWr hWl hUl hW2 hU2 hwin
      go_wp2_with fail
      refine wp_region_still_tail 9 (by kernel_rfl) (by kernel_rfl) ?_
      simp only [List.take_succ_cons, List.take_zero, List.drop_succ_cons, List.drop_zero]
      change wpStill _ _ wr.drew (fun a' => wpList _ _ _ _ a' wr.drew) _ _
      repeat still_step
      still_call (CH.out.mono (fun _ _ h => ⟨h.1, h.2.symm⟩))
      refine wpStill_nil ?_
      clear CH
      obtain ⟨wa, hwa⟩ : ∃ wa, wr.drew = wa := ⟨_, rfl⟩
      have hua : Upd [] wr wa := by rw [← hwa]; exact Upd.drew _ _
      rw [hwa]
      have HP2 := Lib.hid (And.intro (HP.out.1.away hua (by simp)) (And.intro (Nat.le_trans HP.out.2.1 hua.size) (fun k hk => And.intro (Nat.lt_of_lt_of_le (HP.out.2.2 k hk).1 hua.size) (HP.out.2.2 k hk).2)))
      have HST2 := Lib.hid (HI.out.st.trans (QStep.upd hua HP.out.2.1 (by simp) (fun k hk => (HP.out.2.2 k hk).1)))
      have x1 := hua.cell x0 (by simp)
      have c0a := hua.cell c0 (by simp)
      have c1a := hua.cell c1 (by simp)
      have hin2 : IntsIn wa.drew vw W2 := (HP2.out.1.own 1 (by omega)).isIn HWR.out
      have HIN2 := Lib.hid hin2
      clear hwa hua x0 c0 c1 hin2 HIN
      go_upto_region 6 with fail
      go_cut [5] (fun i wx => i = .int .i64 q ∧ Hid (PlAt base wx pb U2 (lessOf W2 z) os S ∧ QStep base S w wx ∧ wx.cell? ⟨g, q, none⟩ = some (.int .i64 z)))
      case first =>
        go_region_with (go_at_call 38; refine (CW.out _ HIN2.out).mono ?_; rintro e w1 ⟨v', rfl, ho, hbel⟩; obtain ⟨a1, p1, rfl⟩ := own_len ho; have hb1 := HP2.out.1.blk.keep ((Upd.drew [] wa).trans (Upd.ofBelow hbel)) (by simp); have d1 := hb1.cell 1 _ rfl; have f1 := hb1.free 1; have HO := Lib.hid ho; have HB := Lib.hid hbel; clear ho hbel hb1)
        all_goals go_wp2_with fail
        all_goals
          go_meet
          have hu1 : Upd [] wa w1 := (Upd.drew [] wa).trans (Upd.ofBelow HB.out)
          have hs1 := HP2.out.1.store (j := 1) HP2.out.2.1 HP2.out.2.2 (by omega) (hu1.mono (by simp)) (HO.out.off.mono HP2.out.2.1) (fun k hk => .inr (HO.out.lt k hk).1)
          rw [upd_three1, upd_three1] at hs1
          exact ⟨rfl, ⟨_, _, _, hs1.1, Nat.le_trans HP2.out.2.1 hs1.2.2.size, hs1.2.1⟩, HST2.out.trans hs1.2.2, (Upd.setCell w1 ⟨pb, 1, none⟩ _).cell (hu1.cell x1 (by simp)) (by simp; intro hh; exact (HP2.out.2.2 g HG.out).2 (mem_plBlocks.2 (.inl hh)))⟩
      case rest =>
        obtain ⟨rfl, HC⟩ := hcut
        clear CW HIN2 c0a c1a x1 HP2 HST2 HP
        obtain ⟨⟨vu, vw, vo, hpv, hb, hS⟩, hst, x1⟩ := HC.out
        have c0 := hpv.blk.cell 0 _ rfl
        simp only [three] at c0
        have c0' := (Upd.alloc [] wc (.cells #[.int .i64 z] 3)).cell (a := ⟨pb, 0, none⟩) c0 (by simp)
        have hown0 : OffInts base wc vu U2 := hpv.own 0 (by omega)
        have hap0 : ∀ k, vu.ownBlock = some k → k ≠ pb := fun k hk => hpv.ne 0 k (by omega) hk
        have HAP := Lib.hid hap0
        have HOWN := Lib.hid hown0
        have HP := Lib.hid (And.intro hpv (And.intro hb hS))
        have HST := Lib.hid hst
        clear hpv hb hS hst HC hown0 hap0
        go_upto_region 7 with fail
        go_region_law (go_loud (refine step_append_off rfl (.tmp 38) (.tmp 43) 22 rfl base (by kernel_rfl) Try.infoInt vu U2 (by simp [Act.eval]) (HOWN.out.owns (w' := wc.drew.alloc (.cells #[.int .i64 z] 3)) ((Upd.drew [] wc).trans (Upd.alloc [] _ _)) (by simp)) ⟨wc.heap.size, 0, none⟩ z (by simp [Act.eval]) (BlockAt.cell (BlockAt.new wc.drew 3 [.int .i64 z]) 0 _ rfl) HUL.out (by simp; have := HP.out.2.1; omega) ?_); intro g' o' cap' w1 hown1 hu1 hg1; have hu2 := (((Upd.drew [] wc).trans (Upd.alloc [] _ (.cells #[.int .i64 z] 3))).mono (T := vu.ownBlock.toList) (by simp)).trans hu1; have hb1 := HP.out.1.blk.keep hu2 (by simp; exact fun hh => HAP.out _ hh rfl); have d1 := hb1.cell 0 _ rfl; have f1 := hb1.free 0; have HO := Lib.hid hown1; have HU := Lib.hid hu2; have HGG := Lib.hid (hg1.imp id (fun hh => show wc.heap.size ≤ g' by simp at hh; omega)); clear hown1 hu1 hg1 hu2 hb1)
        all_goals have hnb := HNB.out
        all_goals go_wp2_with fail
        all_goals
          have hs1 := HP.out.1.store (j := 0) HP.out.2.1 HP.out.2.2 (by omega) HU.out HO.out (fun k hk => by simp only [Value.ownBlock, Option.some.injEq] at hk; subst hk; exact HGG.out)
          rw [upd_three0, upd_three0] at hs1
          have HC : Hid (PlAt base _ pb (U2 ++ [z]) (lessOf W2 z) os S ∧ QStep base S w _) := Lib.hid ⟨⟨_, _, _, hs1.1, Nat.le_trans HP.out.2.1 hs1.2.2.size, hs1.2.1⟩, HST.out.trans hs1.2.2⟩
          clear hs1 HU HO HGG
          go_roundw
          case rel => exact ⟨q + 1, by omega, by go_num, Lib.hid ⟨by rw [take_snoc HZ.out, ← List.append_assoc, HE.out.2, List.foldl_append, HE.out.1]; exact HC.out.1, by rw [take_snoc HZ.out, List.foldl_append, HE.out.1]; exact HOK.out, HC.out.2⟩⟩
          case measure => simp [intOf] <;> omega
    · obtain rfl : q = N := by omega
      go_wp2_with fail
      go_ret
      have hp := HI.out.pl
      rw [← HN.out, List.take_length] at hp
      exact ⟨rfl, hp, HI.out.st⟩
end Go.Proofs.Ytklbnldkfohkpaa
