/- Layer 14: Tick, but for the end of a window. -/
import Derived.Test.YtfmgcnmikopgeaaOutH
namespace Go.Proofs.Ytfmgcnmikopgeaa
open Go.RowKit
def backP (S : Nat → Es) (now : Int) (i : Nat) : Bool := (S i).ej && decide ((S i).untl ≤ now)
def backE (t : Wt) (s : Es) : Es := ⟨t.errors - 1, s.times, false, 0, s.att, s.well, s.sk⟩
def clr (t : Wt) (S : Nat → Es) (l : List Nat) : Nat → Es := fun i => if i ∈ l then backE t (S i) else S i
def backL (N : Nat) (S : Nat → Es) (now : Int) : List Nat := (List.range N).filter (backP S now)
theorem clr_nil (t : Wt) (S : Nat → Es) : clr t S [] = S := by funext i; simp [clr]
theorem clr_snoc {t : Wt} {S : Nat → Es} {l : List Nat} {i : Nat} (h : i ∉ l) : upd (clr t S l) i (backE t (clr t S l i)) = clr t S (l ++ [i]) := by
  have hi : clr t S l i = S i := by unfold clr; rw [if_neg h]
  rw [hi]
  funext j
  by_cases e : j = i
  · subst e; rw [upd_same]; simp [clr]
  · rw [upd_other _ _ e]; simp [clr, e]
theorem backL_nodup (N : Nat) (S : Nat → Es) (now : Int) : (backL N S now).Nodup := List.Nodup.sublist List.filter_sublist List.nodup_range
theorem backL_ids (N : Nat) (S : Nat → Es) (now : Int) : idsOf N (backP S now) = (backL N S now).map (fun i : Nat => (i : Int) + 1) := rfl
theorem take_snoc_nat {l : List Nat} {k i : Nat} (h : l[k]? = some i) : l.take (k + 1) = l.take k ++ [i] := by rw [List.take_add_one, h]; rfl
/-- Behind being taken back. -/
def tickS (N : Nat) (t : Wt) (S : Nat → Es) (now : Int) : Nat → Es := clr t S (backL N S now)
def TickPost (base b : Nat) (t : Wt) (frm : Int) (m N : Nat) (B : Nat → Nat) (S : Nat → Es) (now : Int) (R : Value → World → Prop) (w : World) (e : Ending) (w' : World) : Prop :=
  ∃ ov bv, e = .returned (.tuple #[ov, bv]) ∧ OwnInts w.heap.size w' bv (idsOf N (backP S now)) ∧
    ((now - frm < t.window ∧ ov = .slice none 0 0 ∧ GPost base b t frm m N B (tickS N t S now) w w') ∨ (t.window ≤ now - frm ∧ R ov w' ∧ GStep base w w'))
set_option maxRecDepth 100000 in
set_option maxHeartbeats 4000000 in
theorem tick_any (base b : Nat) (t : Wt) (frm : Int) (m N : Nat) (B : Nat → Nat) (S : Nat → Es) (now : Int) (R : Value → World → Prop) (w : World) (h : GAt base w b t frm m N B S) (ht : WtOk t) (hN : (N : Int) ≤ 1000) (hbw : base ≤ w.heap.size) (hn0 : 0 ≤ now) (hn1 : now ≤ 1000000000) (hf0 : 0 ≤ frm) (hf1 : frm ≤ 1000000000)
    (hend : ∀ W, GAt base W b t frm m N B (tickS N t S now) → base ≤ W.heap.size → t.window ≤ now - frm → Calls Try.prog 29 #[.pointer (some ⟨b, 0, none⟩), .int .i64 now] W fun e W' => ∃ ov, e = .returned ov ∧ R ov W' ∧ GStep base W W') :
    Calls Try.prog 13 #[.pointer (some ⟨b, 0, none⟩), .int .i64 now] w (TickPost base b t frm m N B S now R w) := by
  have hmf : ∀ (fn : Fn) (first cap : Array Value) (w : World), (Instr.makeFunc fn first cap).run Try.prog w = .ok (.func fn first cap) w := fun _ _ _ _ => rfl
  have HW1 : Hid (∃ W X, W = w.alloc (.cells #[.int .i64 now] 3) ∧ X = w.heap.size ∧ BlockAt W X 3 [.int .i64 now] ∧ GAt base W b t frm m N B S ∧ GStep base w W) := Lib.hid ⟨_, _, rfl, rfl, BlockAt.new w 3 [.int .i64 now], h.next (Upd.alloc [] w _), .of (Upd.alloc [] w _) hbw (by simp)⟩
  have HE := Lib.hid hend
  have HT := Lib.hid (And.intro ht (And.intro hN hbw))
  have hw0 := ht.w0
  have hw1 := ht.w1
  have he0 := ht.e0
  have he1 := ht.e1
  clear h hend ht hN hbw
  go_enter Try.func13, Try.ntmps13
  go_wp2_with fail
  obtain ⟨W1, X, hW1, hX, hbx, hg1, hst1⟩ := HW1.out
  rw [← hX]
  rw [← hW1]
  have CS := Lib.hid (some_any base b t frm m N B S W1 hg1 HT.out.2.1 28 #[.pointer (some ⟨X, 0, none⟩)] (backP S now) (fun _ _ => rfl) (fun W i hb hi => backF_any (S i) (B i) X now W (hg1.endsAt hb hi) ((hbx.keep (Upd.ofBelow hb) (by simp)).cell 0 _ rfl)))
  have H1 := Lib.hid (And.intro hbx (And.intro hg1 (And.intro hst1 (show w.heap.size ≤ W1.heap.size from hst1.size))))
  clear HW1 hW1 hX hbx hg1 hst1 hmf
  refine CS.out.mono ?_
  rintro e w2 ⟨v, rfl, hown, hbel⟩
  have hb12 := Nat.le_trans HT.out.2.2 H1.out.2.2.2
  have hown' : OwnInts w.heap.size w2 v (idsOf N (backP S now)) := by
    refine ⟨hown.1, hown.2.imp _root_.id ?_⟩
    rintro ⟨g, cap, cur, h1, h2, h3⟩
    exact ⟨g, cap, cur, h1, Nat.le_trans H1.out.2.2.2 h2, h3⟩
  have H2 : Hid (BlockAt w2 X 3 [.int .i64 now] ∧ GAt base w2 b t frm m N B S ∧ GStep base w w2 ∧ OwnInts w.heap.size w2 v (idsOf N (backP S now))) := Lib.hid
    ⟨H1.out.1.keep (Upd.ofBelow hbel) (by simp), H1.out.2.1.next (Upd.ofBelow hbel), H1.out.2.2.1.trans (.ofBelow hbel hb12), hown'⟩
  obtain ⟨ao, cap, rfl⟩ := own_len hown'
  obtain ⟨n, hn⟩ : ∃ n, (idsOf N (backP S now)).length = n := ⟨_, rfl⟩
  have HN := Lib.hid hn
  have hnN : (n : Int) ≤ 1000 := by have := idsOf_len N (backP S now); have := HT.out.2.1; omega
  rw [hn] at H2 ⊢
  clear hown hbel hown' hn CS H1 hb12
  go_wp2_with fail
  have HL0 : Hid (BlockAt w2 X 3 [.int .i64 now] ∧ GAt base w2 b t frm m N B (clr t S ((backL N S now).take 0)) ∧ GStep base w w2 ∧ OwnInts w.heap.size w2 (.slice ao n cap) (idsOf N (backP S now))) := Lib.hid (by rw [List.take_zero, clr_nil]; exact H2.out)
  clear H2
  go_loopw [7, 8, 14] (fun _ _ iv wr => ∃ q : Nat, q ≤ n ∧ iv = .int .i64 q ∧ Hid (BlockAt wr X 3 [.int .i64 now] ∧ GAt base wr b t frm m N B (clr t S ((backL N S now).take q)) ∧ GStep base w wr ∧ OwnInts w.heap.size wr (.slice ao n cap) (idsOf N (backP S now)))) (fun _ _ i _ => n - (intOf i).toNat)
  case atStart => exact ⟨0, by omega, rfl, HL0⟩
  case round =>
    obtain ⟨q, hq, rfl, HL⟩ := hrel
    clear HL0
    by_cases hqn : q < n
    · obtain ⟨i, hi⟩ : ∃ i, (backL N S now)[q]? = some i := ⟨(backL N S now)[q]'(by have := HN.out; rw [backL_ids, List.length_map] at this; omega), by simp⟩
      have hiN : i < N := by
        have := List.mem_of_getElem? hi
        unfold backL at this
        rw [List.mem_filter, List.mem_range] at this
        exact this.1
      have hnot : i ∉ (backL N S now).take q := by
        intro hm
        obtain ⟨k, hk⟩ := List.getElem?_of_mem hm
        obtain ⟨h1, h2⟩ := List.getElem?_eq_some_iff.1 hk
        obtain ⟨h3, h4⟩ := List.getElem?_eq_some_iff.1 hi
        rw [List.getElem_take] at h2
        have := (List.getElem_inj (backL_nodup N S now)).1 (h2.trans h4.symm)
        simp at h1; omega
      have hid : (idsOf N (backP S now))[q]? = some ((i : Int) + 1) := by rw [backL_ids, List.getElem?_map, hi]; rfl
      obtain ⟨g, cp, hv, hg1, hg2, hg3, hg4, hc⟩ : ∃ g cp, Value.slice ao n cap = .slice (some ⟨g, 0, none⟩) (idsOf N (backP S now)).length cp ∧ w.heap.size ≤ g ∧ g < wr.heap.size ∧ (idsOf N (backP S now)).length ≤ cp ∧ cp ≤ maxLen ∧ ∀ j z, (idsOf N (backP S now))[j]? = some z → wr.cell? ⟨g, j, none⟩ = some (.int .i64 z) := by
        rcases HL.out.2.2.2.read with ⟨h1, -⟩ | h1
        · rw [h1] at hid; simp at hid
        · exact h1
      obtain rfl : ao = some ⟨g, 0, none⟩ := by cases hv; rfl
      have hcell := hc q _ hid
      have hG := HL.out.2.1
      have c8 := hG.blk.cell 8 _ rfl
      have c0 := hG.blk.cell 0 _ rfl
      have hlk := hG.look ((i : Int) + 1)
      rw [ptrOf_in hiN] at hlk
      have he := hG.ends i hiN
      have d0 := he.cell 0 _ rfl
      have d2 := he.cell 2 _ rfl
      have d3 := he.cell 3 _ rfl
      have f0 := he.free 0
      have f2 := he.free 2
      have f3 := he.free 3
      have q0 : (0 : Int) ≤ q := by omega
      have q1 : (q : Int) < n := by omega
      have hne : ¬ B i = b := btype_ne he hG.blk (by decide)
      have hne2 : ¬ b = B i := fun hh => hne hh.symm
      have HNX : Hid (GAt base (((wr.setCell ⟨B i, 2, none⟩ (.bool false)).setCell ⟨B i, 3, none⟩ (.int .i64 0)).setCell ⟨B i, 0, none⟩ (.int .i64 (t.errors - 1))) b t frm m N B (clr t S ((backL N S now).take (q + 1))) ∧ Upd [B i] wr (((wr.setCell ⟨B i, 2, none⟩ (.bool false)).setCell ⟨B i, 3, none⟩ (.int .i64 0)).setCell ⟨B i, 0, none⟩ (.int .i64 (t.errors - 1))) ∧ GStep base w (((wr.setCell ⟨B i, 2, none⟩ (.bool false)).setCell ⟨B i, 3, none⟩ (.int .i64 0)).setCell ⟨B i, 0, none⟩ (.int .i64 (t.errors - 1))) ∧ GStep base wr (((wr.setCell ⟨B i, 2, none⟩ (.bool false)).setCell ⟨B i, 3, none⟩ (.int .i64 0)).setCell ⟨B i, 0, none⟩ (.int .i64 (t.errors - 1)))) := Lib.hid (by
        have hu : Upd [B i] wr (((wr.setCell ⟨B i, 2, none⟩ (.bool false)).setCell ⟨B i, 3, none⟩ (.int .i64 0)).setCell ⟨B i, 0, none⟩ (.int .i64 (t.errors - 1))) := ((Upd.setCell' _ _ _ (by simp)).trans (Upd.setCell' _ _ _ (by simp))).trans (Upd.setCell' _ _ _ (by simp))
        have hb := ((he.set 2 (.bool false)).set 3 (.int .i64 0)).set 0 (.int .i64 (t.errors - 1))
        have hg := hG.write (s' := backE t (clr t S ((backL N S now).take q) i)) hiN hu hb (.inr rfl)
        rw [clr_snoc hnot, ← take_snoc_nat hi] at hg
        have hst : GStep base wr (((wr.setCell ⟨B i, 2, none⟩ (.bool false)).setCell ⟨B i, 3, none⟩ (.int .i64 0)).setCell ⟨B i, 0, none⟩ (.int .i64 (t.errors - 1))) := .of hu (Nat.le_trans HT.out.2.2 HL.out.2.2.1.size) (by simp; exact hG.freeE hiN)
        exact ⟨hg, hu, HL.out.2.2.1.trans hst, hst⟩)
      clear hid hc hg1 hg2 hg3 hg4 hv hnot hi hiN hG he
      go_wp2_with fail
      have HF : Hid (BlockAt (((wr.setCell ⟨B i, 2, none⟩ (.bool false)).setCell ⟨B i, 3, none⟩ (.int .i64 0)).setCell ⟨B i, 0, none⟩ (.int .i64 (t.errors - 1))) X 3 [.int .i64 now] ∧ GAt base (((wr.setCell ⟨B i, 2, none⟩ (.bool false)).setCell ⟨B i, 3, none⟩ (.int .i64 0)).setCell ⟨B i, 0, none⟩ (.int .i64 (t.errors - 1))) b t frm m N B (clr t S ((backL N S now).take (q + 1))) ∧ GStep base w (((wr.setCell ⟨B i, 2, none⟩ (.bool false)).setCell ⟨B i, 3, none⟩ (.int .i64 0)).setCell ⟨B i, 0, none⟩ (.int .i64 (t.errors - 1))) ∧ OwnInts w.heap.size (((wr.setCell ⟨B i, 2, none⟩ (.bool false)).setCell ⟨B i, 3, none⟩ (.int .i64 0)).setCell ⟨B i, 0, none⟩ (.int .i64 (t.errors - 1))) (.slice (some ⟨g, 0, none⟩) n cap) (idsOf N (backP S now))) := Lib.hid
        ⟨HNX.out.2.2.2.kept X _ HL.out.1 ⟨_, _, _, rfl, .inl rfl⟩, HNX.out.1, HNX.out.2.2.1, HNX.out.2.2.2.kept.ints HL.out.2.2.2⟩
      go_roundw
      case rel => exact ⟨q + 1, by omega, by go_num, HF⟩
      case measure => simp [intOf] <;> omega
    · obtain rfl : q = n := by omega
      have HQ : Hid (BlockAt wr X 3 [.int .i64 now] ∧ GAt base wr b t frm m N B (tickS N t S now) ∧ GStep base w wr ∧ OwnInts w.heap.size wr (.slice ao q cap) (idsOf N (backP S now))) := Lib.hid (by
        have hl : (backL N S now).length = q := by have := HN.out; rw [backL_ids, List.length_map] at this; exact this
        have := HL.out
        rw [List.take_of_length_le (by omega)] at this
        exact this)
      have x0 := HQ.out.1.cell 0 _ rfl
      have c7 := HQ.out.2.1.blk.cell 7 _ rfl
      have c1 := HQ.out.2.1.blk.cell 1 _ rfl
      have ewd := IntWalk.i64_in (now - frm) (by omega)
      have hbr := Nat.le_trans HT.out.2.2 HQ.out.2.2.1.size
      have HDN : ∀ k, Hid (GAt base (wr.drewN k) b t frm m N B (tickS N t S now) ∧ GStep base w (wr.drewN k) ∧ OwnInts w.heap.size (wr.drewN k) (.slice ao q cap) (idsOf N (backP S now)) ∧ base ≤ (wr.drewN k).heap.size ∧ BlockAt (wr.drewN k) X 3 [.int .i64 now]) := fun k => Lib.hid
        ⟨HQ.out.2.1.next (Upd.drewN [] wr k), HQ.out.2.2.1.trans (.of (Upd.drewN [] wr k) hbr (by simp)), (Upd.drewN [] wr k).owns HQ.out.2.2.2 (by simp), hbr, HQ.out.1⟩
      clear hqn hq HL hbr
      by_cases hlt : now - frm < t.window
      · have hd : decide (now - frm < t.window) = true := by simpa using hlt
        have HLT := Lib.hid hlt
        clear hlt
        go_wp2_with fail
        go_quiet (fail)
        go_wp2_with fail
        refine bodyPost_ret (v := .tuple #[.slice none 0 0, .slice ao q cap]) (by simp [results, Try.results13, go_sem]) rfl ?_
        exact ⟨_, _, rfl, (HDN _).out.2.2.1, .inl ⟨HLT.out, rfl, (HDN _).out.1, (HDN _).out.2.1⟩⟩
      · have hd : decide (now - frm < t.window) = false := by simpa using hlt
        have HLT := Lib.hid (show t.window ≤ now - frm by omega)
        clear hlt
        go_wp2_with fail
        go_quiet (fail)
        have CE := fun k => Lib.hid (HE.out (wr.drewN k) (HDN k).out.1 (HDN k).out.2.2.2.1 HLT.out)
        have x1 := fun k => (HDN k).out.2.2.2.2.cell 0 _ rfl
        clear x0 c7 c1
        go_wp2_with fail
        refine (CE _).out.mono ?_
        rintro e w5 ⟨ov, rfl, hr, hst5⟩
        have HF := Lib.hid (show TickPost base b t frm m N B S now R w (.returned (.tuple #[ov, .slice ao q cap])) w5 from
          ⟨_, _, rfl, hst5.kept.ints (HDN _).out.2.2.1, .inr ⟨HLT.out, hr, (HDN _).out.2.1.trans hst5⟩⟩)
        clear hr hst5 CE
        go_wp2_with fail
        refine bodyPost_ret (v := .tuple #[ov, .slice ao q cap]) (by simp [results, Try.results13, go_sem]) rfl ?_
        exact HF.out
end Go.Proofs.Ytfmgcnmikopgeaa
