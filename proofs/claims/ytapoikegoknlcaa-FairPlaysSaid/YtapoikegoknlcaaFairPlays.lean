/- Layer 22: the walk of FairPlays. -/
import Derived.Test.YtapoikegoknlcaaPlayE
import Derived.Test.YtapoikegoknlcaaFairW
import Derived.Deep.CutBlock
import Derived.Deep.DeepCutAuto
import Derived.Deep.RegionHeld3
namespace Go.Proofs.Ytapoikegoknlcaa
open Go.RowKit
/-- The queue (r0, of n), and the reference's (L, T; rows r) beside it. -/
structure PM (w W : World) (b Z : Nat) (k : Int) (v : Value) (L : List It) (T : Nat → Int) (r : Nat → Row) (n : Int) (r0 : Nat → Row) (S : List Nat) : Prop where
  q : QS w.heap.size W b k n r0 (Z :: (v.ownBlock.toList ++ S))
  st : Below w.heap.size w W
  blk : BlockAt W Z 47 (qC k v T)
  row : RowRd W v L
  rel : Rel L T r
  ris : Rising L
  low : w.heap.size ≤ Z
  ne : v.ownBlock ≠ some Z
  nil : ∀ n cap, v = .slice none n cap → cap = 0
theorem PM.next {w W W' : World} {b Z : Nat} {k : Int} {v : Value} {L : List It} {T : Nat → Int} {r : Nat → Row} {n : Int} {r0 : Nat → Row} {S : List Nat} (h : PM w W b Z k v L T r n r0 S) (u : Upd [] W W') : PM w W' b Z k v L T r n r0 S :=
  ⟨h.q.next u, h.st.trans (u.below h.st.size (by simp)), h.blk.keep u (by simp), h.row.keep u (by simp), h.rel, h.ris, h.low, h.ne, h.nil⟩
theorem PM.sub {w W : World} {b Z : Nat} {k : Int} {v : Value} {L : List It} {T : Nat → Int} {r : Nat → Row} {n : Int} {r0 : Nat → Row} {S S' : List Nat} (h : PM w W b Z k v L T r n r0 S) (hs : ∀ s ∈ S', s ∈ S) : PM w W b Z k v L T r n r0 S' :=
  ⟨h.q.sub (fun x hx => by simp at hx ⊢; rcases hx with h1 | h1 | h1; exact .inl h1; exact .inr (.inl h1); exact .inr (.inr (hs x h1))), h.st, h.blk, h.row, h.rel, h.ris, h.low, h.ne, h.nil⟩
theorem PM.fresh {w W W' : World} {b Z : Nat} {k : Int} {v : Value} {L : List It} {T : Nat → Int} {r : Nat → Row} {n : Int} {r0 : Nat → Row} {S : List Nat} (h : PM w W b Z k v L T r n r0 S) (u : Upd [] W W') {z : Nat} (hz : W.heap.size ≤ z) (hz' : z < W'.heap.size) : PM w W' b Z k v L T r n r0 (z :: S) := by
  have h' := h.next u
  exact ⟨(h.q.new u hz hz').sub (fun x hx => by simp at hx ⊢; rcases hx with h1 | h1 | h1 | h1; exact .inr (.inl h1); exact .inr (.inr (.inl h1)); exact .inl h1; exact .inr (.inr (.inr h1))), h'.st, h'.blk, h'.row, h.rel, h.ris, h.low, h.ne, h.nil⟩
theorem PM.lt {w W : World} {b Z : Nat} {k : Int} {v : Value} {L : List It} {T : Nat → Int} {r : Nat → Row} {n : Int} {r0 : Nat → Row} {S : List Nat} (h : PM w W b Z k v L T r n r0 S) : ∀ g, v.ownBlock = some g → g < W.heap.size := fun g hg => h.q.lt g (by simp [hg])
/-- The queue was called. -/
theorem PM.call {w W W' : World} {b Z : Nat} {k : Int} {v : Value} {L : List It} {T : Nat → Int} {r : Nat → Row} {n n' : Int} {r0 r1 : Nat → Row} {S : List Nat} (h : PM w W b Z k v L T r n r0 S) (hq : QPost w.heap.size b k n' r1 (Z :: (v.ownBlock.toList ++ S)) W W') : PM w W' b Z k v L T r n' r1 S :=
  ⟨hq.1, h.st.trans hq.2.below, hq.2.block (by simp) h.blk, h.row.step hq.2 (fun g hg => by simp [hg]), h.rel, h.ris, h.low, h.ne, h.nil⟩
/-- The reference was called, and its answer stored. -/
theorem PM.turn {w W W' : World} {b Z : Nat} {k : Int} {v v' : Value} {L L' : List It} {T T' : Nat → Int} {r r' : Nat → Row} {n : Int} {r0 : Nat → Row} {S : List Nat} (h : PM w W b Z k v L T r n r0 S) (hq : RQ W W' v v' L' T' r') (hr : Rising L') (hb : Below W.heap.size W W') : PM w (set1 W' Z k v' T') b Z k v' L' T' r' n r0 S := by
  have u := Upd.ofBelow hb
  have hZ := h.blk.lt
  have hvne : v'.ownBlock ≠ some Z := fun hh => by
    rcases hq.old Z hh with h1 | h1
    · exact h.ne h1
    · omega
  have hq2 : QS w.heap.size W' b k n r0 (Z :: (v'.ownBlock.toList ++ S)) := by
    cases hv : v'.ownBlock with
    | none => exact (h.q.next u).sub (fun x hx => by simp at hx ⊢; rcases hx with h1 | h1; exact .inl h1; exact .inr (.inr h1))
    | some g =>
      rcases hq.old g hv with h1 | ⟨h1, h2⟩
      · rw [← h1]; exact h.q.next u
      · exact (h.q.new u h1 h2).sub (fun x hx => by simp at hx ⊢; rcases hx with h1 | h1 | h1; exact .inr (.inl h1); exact .inl h1; exact .inr (.inr (.inr h1)))
  have u2 := set1_upd W' Z k v' T'
  exact ⟨hq2.write u2 (by simp), (h.st.trans (u.below h.st.size (by simp))).trans (u2.below (Nat.le_trans h.st.size u.size) (by simpa using h.low)), set1_at (h.blk.keep u (by simp)) k v' T', hq.row.keep u2 (fun g hg => by simp; exact fun e => hvne (by rw [hg, e])), hq.rel, hr, h.low, hvne, hq.nil h.nil⟩
/-- The cells of the reference's queue, and all of it. -/
structure PC (w W : World) (b Z : Nat) (k : Int) (v : Value) (L : List It) (T : Nat → Int) (r : Nat → Row) (n : Int) : Prop where
  c0 : W.cell? ⟨Z, 0, none⟩ = some (.int .i64 k)
  c1 : W.cell? ⟨Z, 1, none⟩ = some v
  c2 : W.cell? ⟨Z, 2, none⟩ = some (.int .i64 (T 0))
  c3 : W.cell? ⟨Z, 3, none⟩ = some (.int .i64 (T 1))
  c4 : W.cell? ⟨Z, 4, none⟩ = some (.int .i64 (T 2))
  c5 : W.cell? ⟨Z, 5, none⟩ = some (.int .i64 (T 3))
  pm : Hid (PM w W b Z k v L T r n r [])
theorem PM.pc {w W : World} {b Z : Nat} {k : Int} {v : Value} {L : List It} {T : Nat → Int} {r : Nat → Row} {n : Int} (h : PM w W b Z k v L T r n r []) : PC w W b Z k v L T r n :=
  ⟨h.blk.cell 0 _ rfl, h.blk.cell 1 _ rfl, h.blk.cell 2 _ rfl, h.blk.cell 3 _ rfl, h.blk.cell 4 _ rfl, h.blk.cell 5 _ rfl, Lib.hid h⟩
theorem PM.len {w W : World} {b Z : Nat} {k : Int} {v : Value} {L : List It} {T : Nat → Int} {r : Nat → Row} {n : Int} (h : PM w W b Z k v L T r n r []) :
    Calls Try.prog 13 #[.pointer (some ⟨b, 0, none⟩)] W fun e W' => e = .returned (.int .i64 n) ∧ PC w W' b Z k v L T r n :=
  (len_qs w.heap.size b k n r _ W h.q).mono (fun _ _ ⟨h1, h2⟩ => ⟨h1, by rw [← h2]; exact h.pc⟩)
theorem PM.all {w W : World} {b Z : Nat} {k : Int} {v : Value} {L : List It} {T : Nat → Int} {r : Nat → Row} {n : Int} (h : PM w W b Z k v L T r n r []) (hl : L.length ≤ 900) :
    Calls Try.prog 18 #[.pointer (some ⟨b, 0, none⟩)] W fun e W' => ∃ o ov, e = .returned ov ∧ Hid (AllR r 0 o) ∧ Hid (RowRd W' ov o) ∧ PC w W' b Z k v L T r n :=
  (all_qs w.heap.size b k n r _ W h.q (fun q hq => by have := h.rel.len hq; omega)).mono (fun _ _ ⟨o, ov, h1, h2, h3⟩ =>
    ⟨o, ov, h2, Lib.hid h1, Lib.hid (RowRd.of h3.own), (h.call ⟨h3.q.sub (fun x hx => by simp at hx ⊢; exact .inr hx), h3.st⟩).pc⟩)
theorem sum_len : ∀ (L : List It), (∀ x ∈ L, ∃ p : Nat, p < 4 ∧ x.prio = (p : Int)) → L.length = (ofP L 0).length + (ofP L 1).length + (ofP L 2).length + (ofP L 3).length
  | [], _ => rfl
  | x :: L, h => by
    have ih := sum_len L (fun y hy => h y (by simp [hy]))
    obtain ⟨p, hp, hxp⟩ := h x (by simp)
    unfold ofP at ih ⊢
    change L.length = (L.filter (fun x => decide (x.prio = (0 : Int)))).length + (L.filter (fun x => decide (x.prio = (1 : Int)))).length + (L.filter (fun x => decide (x.prio = (2 : Int)))).length + (L.filter (fun x => decide (x.prio = (3 : Int)))).length at ih
    rcases (show p = 0 ∨ p = 1 ∨ p = 2 ∨ p = 3 by omega) with rfl | rfl | rfl | rfl <;> simp [List.filter_cons, hxp] <;> omega
theorem Rel.total {L : List It} {T : Nat → Int} {r : Nat → Row} (h : Rel L T r) {o : List It} (ho : AllR r 0 o) : L.length = o.length := by
  rw [ho.length]
  unfold totN
  rw [h.row 0 (by omega), h.row 1 (by omega), h.row 2 (by omega), h.row 3 (by omega)]
  exact sum_len L (fun x hx => (h.ok x hx).1)
theorem PM.refAll {w W : World} {b Z : Nat} {k : Int} {v : Value} {L : List It} {T : Nat → Int} {r : Nat → Row} {n : Int} (h : PM w W b Z k v L T r n r []) (hl : L.length ≤ 900) {o : List It} {ov : Value} (ho : AllR r 0 o) (hr : RowRd W ov o) :
    Calls Try.prog 25 #[qVal k v T] W fun e W' => ∃ ov2, e = .returned ov2 ∧ Hid (RowRd W' ov o) ∧ Hid (RowRd W' ov2 o) ∧ PC w W' b Z k v L T r n :=
  (refAll_any k v L T r o W h.row h.lt h.rel ho (by have := h.rel.total ho; omega) (h.rel.total ho)).mono (fun _ _ ⟨ov2, h1, h2, h3⟩ =>
    ⟨ov2, h1, Lib.hid (hr.keep (Upd.ofBelow h3) (by simp)), Lib.hid h2, (h.next (Upd.ofBelow h3)).pc⟩)
theorem PM.same {w W : World} {b Z : Nat} {k : Int} {v : Value} {L : List It} {T : Nat → Int} {r : Nat → Row} {n : Int} (h : PM w W b Z k v L T r n r []) {o : List It} {ov ov2 : Value} (h1 : RowRd W ov o) (h2 : RowRd W ov2 o) (ho : AllR r 0 o) (hl : L.length ≤ 900) :
    Calls Try.prog 20 #[ov, ov2] W fun e W' => e = .returned (.bool true) ∧ PC w W' b Z k v L T r n :=
  (same_any ov ov2 o W h1 h2 (by have := h.rel.total ho; omega)).mono (fun _ _ ⟨h1, h2⟩ => ⟨h1, (h.next h2).pc⟩)
theorem set1_size (W : World) (R : Nat) (k : Int) (v : Value) (T : Nat → Int) : (set1 W R k v T).heap.size = W.heap.size := by simp [set1, World.setCell]
set_option maxRecDepth 100000 in
set_option maxHeartbeats 8000000 in
theorem plays_walk (m0 : Int) (l : Value) (zs : List Int) (w : World) (hl : IntsIn w l zs) (hm1 : -9223372036854775808 ≤ m0) (hm2 : m0 ≤ 9223372036854775807) :
    Calls Try.prog 8 #[.int .i64 m0, l] w (TruePost w) := by
  have b0 := around_nonneg m0 9 (by omega)
  have b1 := around_lt m0 9 (by omega)
  have CB := Lib.hid (fun w => around_any m0 9 w hm1 hm2 (by omega))
  obtain ⟨k, hk⟩ : ∃ k : Nat, around m0 9 = (k : Int) := ⟨(around m0 9).toNat, by omega⟩
  rw [hk] at b0 b1 CB
  obtain ⟨a, cap, rfl, hln, hr, hcs⟩ := hl
  have HCS := Lib.hid hcs
  have HR := Lib.hid hr
  have hll : (zs.length : Int) ≤ 9223372036854775807 := by omega
  have CN := Lib.hid (newQ_qs (k : Int) w.heap.size [] w (Nat.le_refl _) (by simp))
  clear hk hm1 hm2 hcs hr hln
  go_enter Try.func8, Try.ntmps8
  go_wp2_with fail
  refine (CB.out _).mono ?_
  rintro e w' ⟨rfl, rfl⟩
  go_wp2_with fail
  refine CN.out.mono ?_
  rintro e w1 ⟨rfl, hq, hst⟩
  obtain ⟨b, hbe⟩ : ∃ b, w.heap.size = b := ⟨_, rfl⟩
  have HQ1 : Hid (QS w.heap.size w1 b k 0 (fun _ => ⟨[], false, 0⟩) [] ∧ QStep w.heap.size [] w w1) := Lib.hid ⟨by rw [← hbe]; exact hq, hst⟩
  rw [hbe]
  clear hq hst hbe CN CB
  have HS1 : Hid (∃ W Z, W = w1.alloc (.cells #[.int .i64 k, .slice none 0 0, .int .i64 0, .int .i64 0, .int .i64 0, .int .i64 0] 47) ∧ Z = w1.heap.size ∧ Hid (PM w W b Z k (.slice none 0 0) [] (fun _ => 0) (fun _ => ⟨[], false, 0⟩) 0 (fun _ => ⟨[], false, 0⟩) [])) := Lib.hid
    ⟨_, _, rfl, rfl, Lib.hid ⟨by simpa [Value.ownBlock] using HQ1.out.1.alloc _, HQ1.out.2.below.alloc HQ1.out.2.size _, BlockAt.new w1 47 (qC k (.slice none 0 0) (fun _ => 0)), ⟨none, 0, rfl, .inl rfl⟩, Rel.nil, List.Pairwise.nil, HQ1.out.2.size, fun h => (by cases h), fun n c h => by cases h; rfl⟩⟩
  clear HQ1
  go_wp2_with fail
  obtain ⟨W1, Z, hW1, hZ, HS⟩ := HS1.out
  rw [← hZ]
  rw [← hW1]
  clear HS1 hW1 hZ
  have HL0 : Hid (([] : List It).length ≤ k ∧ ∀ x ∈ ([] : List It), x.id < ((0 : Nat) : Int)) := Lib.hid ⟨by simp, fun x hx => (by cases hx)⟩
  go_loopw [8] (fun i wr => ∃ (j : Nat) (v : Value) (L : List It) (T : Nat → Int) (r : Nat → Row), i = .int .i64 j ∧ j ≤ 40 ∧ Hid (PM w wr b Z k v L T r (L.length : Int) r []) ∧ Hid (L.length ≤ k ∧ ∀ x ∈ L, x.id < (j : Int))) (fun i _ => 40 - (intOf i).toNat)
  case atStart => exact ⟨0, _, [], _, _, rfl, by omega, HS, HL0⟩
  case round =>
    obtain ⟨j, v, L, T, r, rfl, hj40, HP, HI⟩ := hrel
    clear HS HL0
    by_cases hl1 : j < zs.length
    · by_cases hl2 : j < 40
      · obtain ⟨z, hz⟩ : ∃ z, zs[j]? = some z := ⟨zs[j], by simp [hl1]⟩
        have hzr := HR.out z (List.mem_of_getElem? hz)
        obtain ⟨ab, off, rfl, hc0⟩ : ∃ b off, a = some ⟨b, off, none⟩ ∧ w.cell? ⟨b, off + j, none⟩ = some (.int .i64 z) := by
          rcases HCS.out with h | ⟨b, off, rfl, hc⟩
          · subst h; simp at hz
          · exact ⟨b, off, rfl, by rw [hc j hl1, List.getD, hz]; rfl⟩
        have hcell : wr.cell? ⟨ab, off + j, none⟩ = some (.int .i64 z) := (Upd.ofBelow HP.out.st).cell hc0 (by simp)
        have CA := Lib.hid (fun w => around_any z 1000000 w hzr.1 hzr.2 (by omega))
        have v0 := around_nonneg z 1000000 (by omega)
        have v1 := around_lt z 1000000 (by omega)
        obtain ⟨u, hu⟩ : ∃ v : Nat, around z 1000000 = (v : Int) := ⟨(around z 1000000).toNat, by omega⟩
        rw [hu] at CA v0 v1
        have HJ := Lib.hid (And.intro hl1 hl2)
        have j0 : (0 : Int) ≤ j := by omega
        have hl1' : (j : Int) < zs.length := by omega
        have hl2' : (j : Int) < 40 := by omega
        clear hz hc0 hzr hu hl1 hl2
        go_wp2_with fail
        refine (CA.out _).mono ?_
        rintro e w' ⟨rfl, rfl⟩
        clear CA hcell
        go_upto_block 2 with fail
        go_cut [8] (fun iv wx => iv = .int .i64 j ∧ ∃ (v : Value) (L : List It) (T : Nat → Int) (r : Nat → Row), Hid (PM w wx b Z k v L T r (L.length : Int) r []) ∧ Hid (L.length ≤ k ∧ ∀ x ∈ L, x.id < ((j + 1 : Nat) : Int)))
        case first =>
          obtain ⟨n, hn⟩ : ∃ n, L.length = n := ⟨_, rfl⟩
          have HN := Lib.hid hn
          have hn9 : n ≤ 9 := by have := HI.out.1; omega
          rw [hn] at HP
          clear hn
          obtain ⟨ao, cap2, rfl⟩ := HP.out.row.val
          rw [HN.out] at HP
          have q0 := HP.out.blk.cell 0 _ rfl
          have q1 := HP.out.blk.cell 1 _ rfl
          have q2 := HP.out.blk.cell 2 _ rfl
          have q3 := HP.out.blk.cell 3 _ rfl
          have q4 := HP.out.blk.cell 4 _ rfl
          have q5 := HP.out.blk.cell 5 _ rfl
          have lenT : ∀ q, q < 4 → ((r q).items.length : Int) ≤ 900 := fun q hq => by have := HP.out.rel.len hq; have := HN.out; omega
          have neT : ∀ q, q < 4 → (r q).items ≠ [] → (1 : Int) ≤ n := fun q hq hne => by have := HP.out.rel.ne hq hne; have := HN.out; omega
          have HLT := Lib.hid (And.intro lenT neT)
          clear lenT neT
          have hZl := HP.out.blk.lt
          by_cases hT : (u : Int) % 8 = 0 ∨ (u : Int) % 8 = 1
          · have CT := Lib.hid (refTake_any k (.slice ao n cap2) L T r wr HP.out.row HP.out.rel (by rw [HN.out]; omega))
            unfold qVal at CT
            rcases hT with h0 | h0
            all_goals
              go_wp2_with fail
              refine CT.out.mono ?_
              rintro e w3 ⟨v', L', T', r', x, is, rfl, htake, hrq, hsub, hlen, hL0, hL1, hbel⟩
              obtain ⟨ao2, cap3, rfl⟩ := hrq.row.val
              have hb3 := HP.out.blk.keep (Upd.ofBelow hbel) (by simp)
              have HP4 := Lib.hid (HP.out.turn hrq (HP.out.ris.sublist hsub) hbel)
              have HTK := Lib.hid htake
              have HI4 : Hid (((if is = true then (n : Int) - 1 else (n : Int)) = L'.length) ∧ L'.length ≤ k ∧ ∀ x ∈ L', x.id < ((j + 1 : Nat) : Int)) := Lib.hid (by
                have h1 := HI.out
                have h2 := HN.out
                refine ⟨?_, by have := hsub.length_le; omega, fun y hy => by have := h1.2 y (hsub.subset hy); omega⟩
                cases is with
                | true => have := hlen rfl; simp; omega
                | false => rw [hL1 rfl]; have := hL0 rfl; rw [this] at h2; simp at h2 ⊢; omega)
              obtain ⟨m, hm⟩ : ∃ m, L'.length = m := ⟨_, rfl⟩
              rw [hm] at HP4 HI4 ⊢
              have hsz := set1_size w3 Z k (.slice ao2 m cap3) T'
              have p0 := hb3.cell 0 _ rfl
              have p1 := hb3.cell 1 _ rfl
              have p2 := hb3.cell 2 _ rfl
              have p3 := hb3.cell 3 _ rfl
              have p4 := hb3.cell 4 _ rfl
              have p5 := hb3.cell 5 _ rfl
              have f0 := hb3.free 0
              have f1 := hb3.free 1
              have f2 := hb3.free 2
              have f3 := hb3.free 3
              have f4 := hb3.free 4
              have f5 := hb3.free 5
              have hZ3 := hb3.lt
              have hne : ¬ Z = w3.heap.size := by omega
              have hne1 : ¬ Z = w3.heap.size + 1 := by omega
              obtain ⟨xi, xp, xf⟩ := x
              unfold qVal It.val
              dsimp only
              have HM := Lib.hid hm
              clear htake hrq hsub hlen hL0 hL1 hbel hb3 CT q0 q1 q2 q3 q4 q5 hm
              go_upto_region 21 with fail
            all_goals
              obtain ⟨W4, hW4⟩ : ∃ W, set1 w3 Z k (.slice ao2 m cap3) T' = W := ⟨_, rfl⟩
              rw [hW4] at HP4 hsz
              unfold set1 at hW4
              rw [hW4, ← hsz]
              have HW5 : Hid (∃ W N X, W = (W4.alloc (.cells #[.int .i64 k, .slice ao2 m cap3, .int .i64 (T' 0), .int .i64 (T' 1), .int .i64 (T' 2), .int .i64 (T' 3)] 47)).alloc (.cells #[.int .i64 xi, .int .i64 xp, .int .i64 xf] 27) ∧ N = W4.heap.size ∧ X = W4.heap.size + 1 ∧ BlockAt W X 27 [.int .i64 xi, .int .i64 xp, .int .i64 xf] ∧ Hid (PM w W b Z k (.slice ao2 m cap3) L' T' r' n r [X])) :=
                Lib.hid ⟨_, _, _, rfl, rfl, rfl, by simpa using BlockAt.new (W4.alloc (.cells #[.int .i64 k, .slice ao2 m cap3, .int .i64 (T' 0), .int .i64 (T' 1), .int .i64 (T' 2), .int .i64 (T' 3)] 47)) 27 [.int .i64 xi, .int .i64 xp, .int .i64 xf], Lib.hid ((HP4.out.next (Upd.alloc [] W4 _)).fresh (Upd.alloc [] _ _) (by simp) (by simp))⟩
              obtain ⟨W5, N, X, hW5, hN, hX, hx5, HP5⟩ := HW5.out
              rw [← hX, ← hN]
              rw [← hW5]
              have HX5 := Lib.hid hx5
              have CT2 := Lib.hid (take_qs w.heap.size b k n r _ W5 HP5.out.q (by omega) (by omega) (fun q hq => by have := HLT.out.1 q hq; omega) (fun q hq hne => HLT.out.2 q hq hne))
              clear HW5 hW5 hN hX hx5 hW4 hsz p0 p1 p2 p3 p4 p5 f0 f1 f2 f3 f4 f5 hne hne1 hZ3 HP4
              go_wp2_with fail
              refine CT2.out.mono ?_
              rintro e w6 ⟨r2, y, is2, ht, rfl, hqp⟩
              obtain ⟨rfl, rfl, rfl⟩ := HTK.out.unique ht
              have HX6 := Lib.hid (hqp.2.block (by simp) HX5.out)
              have HP6 := Lib.hid (HP5.out.call hqp)
              have x0 := HX6.out.cell 0 _ rfl
              have x1 := HX6.out.cell 1 _ rfl
              have x2 := HX6.out.cell 2 _ rfl
              have hXl := HX6.out.lt
              have hne6 : ¬ X = w6.heap.size := by omega
              rw [HI4.out.1] at HP6
              unfold It.val
              dsimp only
              have HP7 : Hid (PM w (w6.alloc (.cells #[.int .i64 xi, .int .i64 xp, .int .i64 xf] 27)) b Z k (.slice ao2 m cap3) L' T' r' m r' []) := Lib.hid ((HP6.out.next (Upd.alloc [] w6 _)).sub (by simp))
              clear ht hqp CT2 HX5 HX6 HP5 HP6
              go_wp2_with fail
              go_meet
              exact ⟨rfl, .slice ao2 m cap3, L', T', r', by rw [HM.out]; exact HP7, by rw [HM.out]; exact Lib.hid HI4.out.2⟩
          · by_cases h2 : (u : Int) % 8 = 2
            · obtain ⟨d, hd⟩ : ∃ d : Nat, (u : Int) / 8 % 40 = (d : Int) := ⟨((u : Int) / 8 % 40).toNat, by omega⟩
              have CT := Lib.hid (refDrop_any k (.slice ao n cap2) L T r d wr HP.out.row HP.out.rel HP.out.ris (by rw [HN.out]; omega))
              unfold qVal at CT
              have e0 : ((u : Int) % 8 == 0) = false := by rw [beq_eq_false_iff_ne]; omega
              have e1 : ((u : Int) % 8 == 1) = false := by rw [beq_eq_false_iff_ne]; omega
              have e2 : ((u : Int) % 8 == 2) = true := by rw [beq_iff_eq]; exact h2
              clear hT h2
              go_wp2_with fail
              refine CT.out.mono ?_
              rintro e w3 ⟨v', L', r', is, rfl, hdrop, hrq, hsub, hlen, hbel⟩
              obtain ⟨ao2, cap3, rfl⟩ := hrq.row.val
              have hb3 := HP.out.blk.keep (Upd.ofBelow hbel) (by simp)
              have HP4 := Lib.hid (HP.out.turn hrq (HP.out.ris.sublist hsub) hbel)
              have HTK := Lib.hid hdrop
              have HI4 : Hid (((if is = true then (n : Int) - 1 else (n : Int)) = L'.length) ∧ L'.length ≤ k ∧ ∀ x ∈ L', x.id < ((j + 1 : Nat) : Int)) := Lib.hid (by
                have h1 := HI.out
                have h2 := HN.out
                refine ⟨?_, by have := hsub.length_le; omega, fun y hy => by have := h1.2 y (hsub.subset hy); omega⟩
                rw [h2] at hlen
                cases is with
                | true => simp at hlen ⊢; omega
                | false => simp at hlen ⊢; omega)
              obtain ⟨m, hm⟩ : ∃ m, L'.length = m := ⟨_, rfl⟩
              rw [hm] at HP4 HI4 ⊢
              have hsz := set1_size w3 Z k (.slice ao2 m cap3) T
              have p0 := hb3.cell 0 _ rfl
              have p1 := hb3.cell 1 _ rfl
              have p2 := hb3.cell 2 _ rfl
              have p3 := hb3.cell 3 _ rfl
              have p4 := hb3.cell 4 _ rfl
              have p5 := hb3.cell 5 _ rfl
              have f0 := hb3.free 0
              have f1 := hb3.free 1
              have f2 := hb3.free 2
              have f3 := hb3.free 3
              have f4 := hb3.free 4
              have f5 := hb3.free 5
              have hZ3 := hb3.lt
              have hne : ¬ Z = w3.heap.size := by omega
              unfold qVal
              have HM := Lib.hid hm
              clear hdrop hrq hsub hlen hbel hb3 CT q0 q1 q2 q3 q4 q5 hm
              go_upto_region 27 with fail
              obtain ⟨W4, hW4⟩ : ∃ W, set1 w3 Z k (.slice ao2 m cap3) T = W := ⟨_, rfl⟩
              rw [hW4] at HP4 hsz
              unfold set1 at hW4
              rw [hW4, ← hsz]
              have HP5 : Hid (PM w (W4.alloc (.cells #[.int .i64 k, .slice ao2 m cap3, .int .i64 (T 0), .int .i64 (T 1), .int .i64 (T 2), .int .i64 (T 3)] 47)) b Z k (.slice ao2 m cap3) L' T r' n r []) := Lib.hid (HP4.out.next (Upd.alloc [] W4 _))
              obtain ⟨W5, hW5⟩ : ∃ W, W4.alloc (.cells #[.int .i64 k, .slice ao2 m cap3, .int .i64 (T 0), .int .i64 (T 1), .int .i64 (T 2), .int .i64 (T 3)] 47) = W := ⟨_, rfl⟩
              obtain ⟨N, hN⟩ : ∃ N, W4.heap.size = N := ⟨_, rfl⟩
              rw [hW5] at HP5
              rw [hW5, hN]
              have CT2 := Lib.hid (drop_qs w.heap.size b k n r _ d W5 HP5.out.q (by omega) (by omega) (fun q hq => by have := HLT.out.1 q hq; omega) (fun q hq hne => HLT.out.2 q hq hne))
              clear hW5 hN hW4 hsz p0 p1 p2 p3 p4 p5 f0 f1 f2 f3 f4 f5 hne hZ3 HP4
              go_wp2_with fail
              refine CT2.out.mono ?_
              rintro e w6 ⟨r2, is2, ht, rfl, hqp⟩
              obtain ⟨rfl, rfl⟩ := HTK.out.unique ht
              have HP6 := Lib.hid (HP5.out.call hqp)
              rw [HI4.out.1] at HP6
              clear ht hqp CT2 HP5
              go_wp2_with fail
              go_meet
              exact ⟨rfl, .slice ao2 m cap3, L', T, r', by rw [HM.out]; exact HP6, by rw [HM.out]; exact Lib.hid HI4.out.2⟩
            · have e0 : ((u : Int) % 8 == 0) = false := by rw [beq_eq_false_iff_ne]; omega
              have e1 : ((u : Int) % 8 == 1) = false := by rw [beq_eq_false_iff_ne]; omega
              have e2 : ((u : Int) % 8 == 2) = false := by rw [beq_eq_false_iff_ne]; exact h2
              obtain ⟨v8, hv8⟩ : ∃ d, (u : Int) / 8 = d := ⟨_, rfl⟩
              have v80 : 0 ≤ v8 := by omega
              have v81 : v8 < 1000000 := by omega
              have CI := Lib.hid (fun w => item_any v8 j w (by omega) (by omega))
              obtain ⟨p, hp, hpx⟩ := mkIt_prio v8 j
              have hfx := mkIt_flow v8 j
              obtain ⟨y, hy⟩ : ∃ x, mkIt v8 j = x := ⟨_, rfl⟩
              have hyid : y.id = (j : Int) := by rw [← hy]; rfl
              rw [show (⟨(j : Int), around v8 100000 % 4, around v8 100000 / 4 % 5⟩ : It) = y from hy] at CI
              rw [hy] at hpx hfx
              have HY := Lib.hid (And.intro hp (And.intro hpx (And.intro hyid hfx)))
              have HV8 := Lib.hid hv8
              clear hT h2 hp hpx hy hyid hfx hv8 v80 v81 q0 q1 q2 q3 q4 q5 hZl
              go_wp2_with fail
              rw [HV8.out]
              refine (CI.out _).mono ?_
              rintro e w3 ⟨rfl, hb3⟩
              have HP3 := Lib.hid (HP.out.next (Upd.ofBelow hb3))
              have HW4 : Hid (∃ W IX, W = w3.alloc (.cells #[.int .i64 y.id, .int .i64 y.prio, .int .i64 y.flow] 27) ∧ IX = w3.heap.size ∧ BlockAt W IX 27 [.int .i64 y.id, .int .i64 y.prio, .int .i64 y.flow] ∧ Hid (PM w W b Z k (.slice ao n cap2) L T r n r [IX]) ∧ Z < IX ∧ IX < W.heap.size) :=
                Lib.hid ⟨_, _, rfl, rfl, BlockAt.new w3 27 [.int .i64 y.id, .int .i64 y.prio, .int .i64 y.flow], Lib.hid (HP3.out.fresh (Upd.alloc [] w3 _) (Nat.le_refl _) (by simp)), HP3.out.blk.lt, by simp⟩
              unfold It.val
              clear hb3 CI
              go_upto_region 12 with fail
              obtain ⟨W4, IX, hW4, hIX, hbx, HP4, hZX, hXl⟩ := HW4.out
              rw [← hIX]
              rw [← hW4]
              have HBX := Lib.hid (And.intro hbx (And.intro hZX hXl))
              have CP := Lib.hid (refPut_any k (.slice ao n cap2) L T r p y W4 HP4.out.row HP4.out.nil HP4.out.rel HY.out.1 HY.out.2.1 HY.out.2.2.2 (by have := HN.out; omega))
              rw [HN.out] at CP
              unfold qVal It.val at CP
              have q0 := HP4.out.blk.cell 0 _ rfl
              have q1 := HP4.out.blk.cell 1 _ rfl
              have q2 := HP4.out.blk.cell 2 _ rfl
              have q3 := HP4.out.blk.cell 3 _ rfl
              have q4 := HP4.out.blk.cell 4 _ rfl
              have q5 := HP4.out.blk.cell 5 _ rfl
              have y0 := hbx.cell 0 _ rfl
              have y1 := hbx.cell 1 _ rfl
              have y2 := hbx.cell 2 _ rfl
              clear HW4 hW4 hIX hbx hZX hXl HP3 HV8
              go_wp2_with fail
              refine CP.out.mono ?_
              rintro e w5 ⟨v', L', r', x, is, rfl, hput, hrq, hsub, hbel⟩
              obtain ⟨ao2, cap3, rfl⟩ := hrq.row.val
              have hb5 := HP4.out.blk.keep (Upd.ofBelow hbel) (by simp)
              have hyj := HY.out.2.2.1
              have hris : Rising L' := (HP4.out.ris.add (fun a ha => by have := HI.out.2 a ha; omega)).sublist hsub
              have HP6 := Lib.hid (HP4.out.turn hrq hris hbel)
              have HBX6 := Lib.hid (show BlockAt (set1 w5 Z k (.slice ao2 L'.length cap3) T) IX 27 [.int .i64 y.id, .int .i64 y.prio, .int .i64 y.flow] from (HBX.out.1.keep (Upd.ofBelow hbel) (by simp)).keep (set1_upd _ _ _ _ _) (by have := HBX.out.2.1; simp; omega))
              have HTK := Lib.hid hput
              have HI6 : Hid (L'.length ≤ k ∧ ∀ x ∈ L', x.id < ((j + 1 : Nat) : Int)) := Lib.hid (by
                have h1 := HI.out
                have h2 := HN.out
                refine ⟨?_, fun a ha => ?_⟩
                · obtain ⟨m', hm'⟩ : ∃ m' : Int, (L'.length : Int) = m' := ⟨_, rfl⟩
                  rw [hm'] at hput
                  cases hput with
                  | room hr => omega
                  | over r' y ho hs => omega
                · rcases List.mem_append.1 (hsub.subset ha) with h | h
                  · have := h1.2 a h; omega
                  · simp at h; subst h; omega)
              obtain ⟨m, hm⟩ : ∃ m, L'.length = m := ⟨_, rfl⟩
              rw [hm] at HP6 HI6 HBX6 HTK ⊢
              have hsz := set1_size w5 Z k (.slice ao2 m cap3) T
              have p0 := hb5.cell 0 _ rfl
              have p1 := hb5.cell 1 _ rfl
              have p2 := hb5.cell 2 _ rfl
              have p3 := hb5.cell 3 _ rfl
              have p4 := hb5.cell 4 _ rfl
              have p5 := hb5.cell 5 _ rfl
              have f0 := hb5.free 0
              have f1 := hb5.free 1
              have f2 := hb5.free 2
              have f3 := hb5.free 3
              have f4 := hb5.free 4
              have f5 := hb5.free 5
              have hZ5 := hb5.lt
              have hne : ¬ Z = w5.heap.size := by omega
              have hne1 : ¬ Z = w5.heap.size + 1 := by omega
              obtain ⟨xi, xp, xf⟩ := x
              unfold qVal It.val
              dsimp only
              have HM := Lib.hid hm
              clear hput hrq hsub hbel hb5 CP q0 q1 q2 q3 q4 q5 y0 y1 y2 hm hris hyj
              go_upto_region 14 with fail
              obtain ⟨W6, hW6⟩ : ∃ W, set1 w5 Z k (.slice ao2 m cap3) T = W := ⟨_, rfl⟩
              rw [hW6] at HP6 hsz HBX6
              unfold set1 at hW6
              rw [hW6, ← hsz]
              have HW7 : Hid (∃ W N X, W = (W6.alloc (.cells #[.int .i64 k, .slice ao2 m cap3, .int .i64 (T 0), .int .i64 (T 1), .int .i64 (T 2), .int .i64 (T 3)] 47)).alloc (.cells #[.int .i64 xi, .int .i64 xp, .int .i64 xf] 27) ∧ N = W6.heap.size ∧ X = W6.heap.size + 1 ∧ BlockAt W X 27 [.int .i64 xi, .int .i64 xp, .int .i64 xf] ∧ BlockAt W IX 27 [.int .i64 y.id, .int .i64 y.prio, .int .i64 y.flow] ∧ Hid (PM w W b Z k (.slice ao2 m cap3) L' T r' n r [X, IX])) :=
                Lib.hid ⟨_, _, _, rfl, rfl, rfl, by simpa using BlockAt.new (W6.alloc (.cells #[.int .i64 k, .slice ao2 m cap3, .int .i64 (T 0), .int .i64 (T 1), .int .i64 (T 2), .int .i64 (T 3)] 47)) 27 [.int .i64 xi, .int .i64 xp, .int .i64 xf], (HBX6.out.alloc _).alloc _, Lib.hid ((HP6.out.next (Upd.alloc [] W6 _)).fresh (Upd.alloc [] _ _) (by simp) (by simp))⟩
              obtain ⟨W7, N, X, hW7, hN, hX, hx7, hbx7, HP7⟩ := HW7.out
              rw [← hX, ← hN]
              rw [← hW7]
              have HX7 := Lib.hid hx7
              have y0 := hbx7.cell 0 _ rfl
              have y1 := hbx7.cell 1 _ rfl
              have y2 := hbx7.cell 2 _ rfl
              have CT2 := Lib.hid (put_qs w.heap.size b k n r _ p y W7 HP7.out.q HY.out.1 HY.out.2.1 (by omega) (by omega) (fun q hq => by have := HLT.out.1 q hq; omega) (by omega) (by omega))
              unfold It.val at CT2
              clear HW7 hW7 hN hX hx7 hbx7 hW6 hsz p0 p1 p2 p3 p4 p5 f0 f1 f2 f3 f4 f5 hne hne1 hZ5 HP6 HBX6
              go_wp2_with fail
              refine CT2.out.mono ?_
              rintro e w8 ⟨r2, n2, x2, is2, ht, rfl, hqp⟩
              obtain ⟨rfl, rfl, rfl, rfl⟩ := HTK.out.unique ht
              have HX8 := Lib.hid (hqp.2.block (by simp) HX7.out)
              have HP8 := Lib.hid (HP7.out.call hqp)
              have x0 := HX8.out.cell 0 _ rfl
              have x1 := HX8.out.cell 1 _ rfl
              have x2 := HX8.out.cell 2 _ rfl
              have hXl := HX8.out.lt
              have hne8 : ¬ X = w8.heap.size := by omega
              unfold It.val
              dsimp only
              have HP9 : Hid (PM w (w8.alloc (.cells #[.int .i64 xi, .int .i64 xp, .int .i64 xf] 27)) b Z k (.slice ao2 m cap3) L' T r' m r' []) := Lib.hid ((HP8.out.next (Upd.alloc [] w8 _)).sub (by simp))
              clear ht hqp CT2 HX7 HX8 HP7 HP8 y0 y1 y2
              go_wp2_with fail
              go_meet
              exact ⟨rfl, .slice ao2 m cap3, L', T, r', by rw [HM.out]; exact HP9, by rw [HM.out]; exact HI6⟩
        case rest =>
          obtain ⟨rfl, v, L, T, r, HP, HI⟩ := hcut
          obtain ⟨n, hn⟩ : ∃ n, L.length = n := ⟨_, rfl⟩
          have HN := Lib.hid hn
          have hn9 : n ≤ 9 := by have := HI.out.1; omega
          rw [hn] at HP
          clear hn
          obtain ⟨ao, cap2, rfl⟩ := HP.out.row.val
          rw [HN.out] at HP
          have hl9 : L.length ≤ 900 := by have := HI.out.1; omega
          have L1 := Lib.hid (fun W (h : Hid (PM w W b Z k (.slice ao n cap2) L T r n r [])) => h.out.len)
          have L2 := Lib.hid (fun W (h : Hid (PM w W b Z k (.slice ao n cap2) L T r n r [])) => h.out.all hl9)
          have L3 := Lib.hid (fun W (o : List It) (ov : Value) (h : Hid (PM w W b Z k (.slice ao n cap2) L T r n r [])) (ho : Hid (AllR r 0 o)) (hr : Hid (RowRd W ov o)) => h.out.refAll hl9 ho.out hr.out)
          have L4 := Lib.hid (fun W (o : List It) (ov ov2 : Value) (h : Hid (PM w W b Z k (.slice ao n cap2) L T r n r [])) (ho : Hid (AllR r 0 o)) (h1 : Hid (RowRd W ov o)) (h2 : Hid (RowRd W ov2 o)) => h.out.same h1.out h2.out ho.out hl9)
          unfold qVal at L3
          have HPd : Hid (PM w wc.drew b Z k (.slice ao n cap2) L T r n r []) := Lib.hid (HP.out.next (Upd.drew [] wc))
          obtain ⟨q0, q1, q2, q3, q4, q5, -⟩ := HPd.out.pc
          clear hl9
          go_upto_region 29 with fail
          go_region_held3 (fun W => W.cell? ⟨Z, 0, none⟩ = some (.int .i64 k) ∧ W.cell? ⟨Z, 1, none⟩ = some (.slice ao n cap2) ∧ W.cell? ⟨Z, 2, none⟩ = some (.int .i64 (T 0)) ∧ W.cell? ⟨Z, 3, none⟩ = some (.int .i64 (T 1)) ∧ W.cell? ⟨Z, 4, none⟩ = some (.int .i64 (T 2)) ∧ W.cell? ⟨Z, 5, none⟩ = some (.int .i64 (T 3)) ∧ Hid (PM w W b Z k (.slice ao n cap2) L T r n r []))
            (first | assumption | exact ⟨q0, q1, q2, q3, q4, q5, HPd⟩ | exact ⟨by assumption, by assumption, by assumption, by assumption, by assumption, by assumption, by assumption⟩)
            (first
              | (go_at_call 13; with_reducible refine (L1.out _ (by assumption)).mono ?_; rintro e w' ⟨rfl, k0, k1, k2, k3, k4, k5, kp⟩)
              | (go_at_call 18; with_reducible refine (L2.out _ (by assumption)).mono ?_; rintro e w' ⟨o, ov, rfl, ho, hov, k0, k1, k2, k3, k4, k5, kp⟩)
              | (go_at_call 25; with_reducible refine (L3.out _ _ _ (by assumption) (by assumption) (by assumption)).mono ?_; rintro e w' ⟨ov2, rfl, hov1, hov2, k0, k1, k2, k3, k4, k5, kp⟩)
              | (go_at_call 20; with_reducible refine (L4.out _ _ _ _ (by assumption) (by assumption) (by assumption) (by assumption)).mono ?_; rintro e w' ⟨rfl, k0, k1, k2, k3, k4, k5, kp⟩))
          all_goals
            rw [← HN.out] at kp
            clear k0 k1 k2 k3 k4 k5
          all_goals go_wp2_with fail
          all_goals go_roundw
          all_goals first
            | (case rel => exact ⟨j + 1, _, L, T, r, by go_num, by have := HJ.out; omega, by rw [HN.out] at kp ⊢; exact kp, HI⟩)
            | skip
          all_goals (simp [intOf] <;> have := HJ.out <;> omega)
      · go_wp2_with fail
        refine (lives_any _).mono ?_
        rintro e w9 ⟨rfl, hb9⟩
        have HB9 := Lib.hid hb9
        clear hb9
        go_wp2_with fail
        go_ret
        exact ⟨rfl, HP.out.st.trans (HB9.out.mono HP.out.st.size)⟩
    · go_wp2_with fail
      refine (lives_any _).mono ?_
      rintro e w9 ⟨rfl, hb9⟩
      have HB9 := Lib.hid hb9
      clear hb9
      go_wp2_with fail
      go_ret
      exact ⟨rfl, HP.out.st.trans (HB9.out.mono HP.out.st.size)⟩
end Go.Proofs.Ytapoikegoknlcaa
