/- Layer 22: the reference's All. -/
import Derived.Test.YtapoikegoknlcaaPlayD
import Derived.Test.YtapoikegoknlcaaAppend
namespace Go.Proofs.Ytapoikegoknlcaa
open Go.RowKit
/-- 'append(out, x)' of one element that has just been built, onto a row of the call's own: and where the row lies then. -/
theorem wpList_append_at {P : Program} {ops : Array Oper} {rest : List Oper} {o : Oper} {a : Act} {Q : Exit → Act → World → Prop} (wr : World) (hgd : o.guard = none) (s x : Operand) (t : TypeId)
    (ho : o.op = .call { callee := .builtin .append, args := #[s, x], argTypes := #[t, t] })
    (base : Nat) (e : TypeId) (size bytes : Nat) {z : Value} (hinfo : (P.info? e).map (fun i => (i.zero, i.size, i.bytes)) = some (some z, size, bytes)) (ht : P.underlying t = some (.slice e)) (hzs : z.cells.size = size) (hsz : 0 < size)
    (v : Value) (n : Nat) (xs : List Value) (hs : a.eval s = v) (hown : wr.ownsRow base e size v n xs)
    (news : List Value) (hx : a.eval x = .slice (some ⟨wr.heap.size, 0, none⟩) 1 1) (hl : news.length = size) (h1 : news.all Value.oneCell' = true)
    (hn : n + 1 ≤ maxLen) (hbytes : (n + 1) * bytes ≤ 140737488355328) (hbase : base ≤ wr.heap.size)
    (h : ∀ g cap w', w'.ownsRow base e size (.slice (some ⟨g, 0, none⟩) (n + 1) cap) (n + 1) (xs ++ news) → Upd v.ownBlock.toList wr w' → (v.ownBlock = some g ∨ wr.heap.size ≤ g) → wpList P ops Q rest (a.put o.dst (.slice (some ⟨g, 0, none⟩) (n + 1) cap)) w') : wpList P ops Q (o :: rest) a (wr.alloc (.cells news.toArray e)) := by
  obtain ⟨i, hi, hz, hz1, hz2⟩ := info_parts hinfo
  refine wpList_step fun K hK => step_append_own hgd s x t ho base e i z size bytes ht hi hz hz1 hz2 hzs hsz v n xs hs (hown.alloc _) ⟨wr.heap.size, 0, none⟩ 1 1 news hx (by omega) (by omega) (cells_new wr e news) (fun u hu => List.all_eq_true.1 h1 u hu) hn hbytes (by simp; omega) ?_
  intro g cap w' hown' hu hg
  exact hK _ _ (h g cap w' hown' ((Upd.alloc _ wr _).trans hu) (hg.imp _root_.id (fun hh => by simp at hh; omega)))
def AllPostR (o : List It) (w : World) (e : Ending) (w' : World) : Prop := ∃ ov, e = .returned ov ∧ RowRd w' ov o ∧ Below w.heap.size w w'
/-- What All keeps in memory: the queue's block, and what was taken. -/
structure TL (w W : World) (Q : Nat) (k : Int) (o0 : List It) (v ov : Value) (L : List It) (T : Nat → Int) (out : List It) : Prop where
  q : BlockAt W Q 47 (qC k v T)
  row : RowRd W v L
  own : W.ownsRow w.heap.size 27 3 ov out.length (cellsI out)
  below : Below w.heap.size w W
  low : w.heap.size ≤ Q
  ne : ∀ g, ov.ownBlock = some g → g ≠ Q
  ne2 : ∀ g, ov.ownBlock = some g → v.ownBlock ≠ some g
  ne3 : v.ownBlock ≠ some Q
  is : ∃ (r : Nat → Row) (o : List It), Rel L T r ∧ AllR r 0 o ∧ o0 = out ++ o
theorem Rel.empty' {T : Nat → Int} {r : Nat → Row} {o : List It} (h : Rel [] T r) (ha : AllR r 0 o) : o = [] := by
  rcases ha.take h.takeNil with ⟨h, -⟩ | ⟨-, h⟩
  · cases h
  · exact h
def sliceLen : Value → Nat
  | .slice _ n _ => n
  | _ => 0
theorem sliceLen_mk (a : Option Addr) (n c : Nat) : sliceLen (.slice a n c) = n := rfl
theorem TL.next {w W W' : World} {Q : Nat} {k : Int} {o0 : List It} {v ov : Value} {L : List It} {T : Nat → Int} {out : List It} (h : TL w W Q k o0 v ov L T out) (u : Upd [] W W') : TL w W' Q k o0 v ov L T out :=
  ⟨h.q.keep u (by simp), h.row.keep u (by simp), u.owns h.own (by simp), h.below.trans (u.below h.below.size (by simp)), h.low, h.ne, h.ne2, h.ne3, h.is⟩
theorem AllR.nil_iff' {L : List It} {T : Nat → Int} {r : Nat → Row} {o : List It} (ha : AllR r 0 o) (h : Rel L T r) (hL : o = []) : L = [] := by
  subst hL
  refine List.eq_nil_iff_forall_not_mem.2 (fun x hx => ?_)
  obtain ⟨⟨p, hp, hxp⟩, -⟩ := h.ok x hx
  have hm : x ∈ (r p).items := by rw [h.row p hp]; exact ofP_mem.2 ⟨hx, hxp⟩
  have h1 := ha.length
  have h2 := tot_row (r := r) hp
  have h3 := List.length_pos_of_mem hm
  simp at h1; omega
set_option maxRecDepth 100000 in
set_option maxHeartbeats 4000000 in
theorem refAll_any (k : Int) (v : Value) (L : List It) (T : Nat → Int) (r : Nat → Row) (o : List It) (w : World) (hR : RowRd w v L) (hv : ∀ g, v.ownBlock = some g → g < w.heap.size) (hrel : Rel L T r) (ho : AllR r 0 o) (hl : (o.length : Int) ≤ 900) (hll : L.length = o.length) :
    Calls Try.prog 25 #[qVal k v T] w (AllPostR o w) := by
  obtain ⟨n, hn⟩ : ∃ n, o.length = n := ⟨_, rfl⟩
  have HN := Lib.hid hn
  rw [hn] at hl hll
  obtain ⟨ao, cap, rfl⟩ := hR.val
  rw [hll] at hR hv ⊢
  have HT0 : Hid (∃ W Q, W = w.alloc (.cells #[.int .i64 k, .slice ao n cap, .int .i64 (T 0), .int .i64 (T 1), .int .i64 (T 2), .int .i64 (T 3)] 47) ∧ Q = w.heap.size ∧ Hid (TL w W Q k o (.slice ao n cap) (.slice none 0 0) L T [])) :=
    Lib.hid ⟨_, _, rfl, rfl, Lib.hid ⟨BlockAt.new w 47 (qC k (.slice ao n cap) T), hR.keep (Upd.alloc [] _ _) (by simp), World.ownsRow_nil _ _ _ _, (Below.refl _ _).alloc (Nat.le_refl _) _, Nat.le_refl _, fun g hg => (by cases hg), fun g hg => (by cases hg), fun hh => by have := hv _ hh; omega, r, o, hrel, ho, rfl⟩⟩
  have HLL := Lib.hid hll
  unfold qVal
  clear hR hv hrel ho hn hll
  go_enter Try.func25, Try.ntmps25
  go_wp2_with fail
  obtain ⟨W, Q, hW, hQ, HT⟩ := HT0.out
  rw [← hQ]
  rw [← hW]
  clear HT0 hW hQ
  go_loopw [3, 4, 5, 6] (fun ov _ _ _ wr => ∃ (v : Value) (L : List It) (T : Nat → Int) (out : List It) (m : Nat), out.length + m = n ∧ sliceLen ov = out.length ∧ (∃ a c, v = .slice a m c) ∧ L.length = m ∧ Hid (TL w wr Q k o v ov L T out)) (fun ov _ _ _ _ => n - sliceLen ov)
  case atStart => exact ⟨.slice ao n cap, L, T, [], n, by simp, rfl, ⟨ao, cap, rfl⟩, HLL.out, HT⟩
  case round =>
    obtain ⟨v, L, T, out, m, hm, hsl, ⟨ao, cap, rfl⟩, hLm, HT1⟩ := hrel
    clear HT
    have q1 := HT1.out.q.cell 1 _ rfl
    by_cases h0 : m = 0
    · subst h0
      go_wp2_with fail
      go_ret
      refine ⟨u3, rfl, ?_, HT1.out.below⟩
      obtain ⟨r, o1, hrel, hall, ho⟩ := HT1.out.is
      obtain rfl : L = [] := List.eq_nil_of_length_eq_zero hLm
      obtain rfl := hrel.empty' hall
      rw [ho, List.append_nil]
      exact RowRd.of HT1.out.own
    · have m0 : 0 < m := by omega
      have q0 := HT1.out.q.cell 0 _ rfl
      have q2 := HT1.out.q.cell 2 _ rfl
      have q3 := HT1.out.q.cell 3 _ rfl
      have q4 := HT1.out.q.cell 4 _ rfl
      have q5 := HT1.out.q.cell 5 _ rfl
      obtain ⟨r, o1, hrel, hall, ho⟩ := HT1.out.is
      have CT := Lib.hid (refTake_any k (.slice ao m cap) L T r wr HT1.out.row hrel (by omega))
      unfold qVal at CT
      have HI := Lib.hid (And.intro hrel (And.intro hall (And.intro ho (And.intro hm hLm))))
      clear hrel hall ho hLm h0
      go_wp2_with fail
      refine CT.out.mono ?_
      rintro e w3 ⟨v', L', T', r', x, is, rfl, htake, hrq, hsub, hlen, -, -, hbel⟩
      obtain rfl : is = true := by
        cases htake with
        | none h0 =>
          exfalso
          have h1 := HI.out.2.1.length
          unfold totN at h1
          rw [h0 0 (by omega), h0 1 (by omega), h0 2 (by omega), h0 3 (by omega)] at h1
          have := (HI.out.2.1).nil_iff' HI.out.1 (List.eq_nil_of_length_eq_zero h1)
          have h5 := HI.out.2.2.2.2
          rw [this] at h5
          simp at h5; omega
        | some p i f x h1 h2 h3 h4 h5 h6 => rfl
      obtain ⟨o2, rfl, hall2⟩ : ∃ o2, o1 = x :: o2 ∧ AllR r' 0 o2 := by
        rcases HI.out.2.1.take htake with ⟨-, h⟩ | ⟨h, -⟩
        · exact h
        · cases h
      have hu := Upd.ofBelow hbel
      have HT3 := Lib.hid (HT1.out.next hu)
      have hL' : L'.length + 1 = m := by rw [hlen rfl]; exact HI.out.2.2.2.2
      obtain ⟨ao2, cap2, rfl⟩ := hrq.row.val
      obtain ⟨m2, hm2⟩ : ∃ m, L'.length = m := ⟨_, rfl⟩
      rw [hm2] at hrq hL' ⊢
      have HRQ := Lib.hid hrq
      have HI2 := Lib.hid (show AllR r' 0 o2 ∧ o = out ++ x :: o2 ∧ L'.length = m2 ∧ m2 + 1 = m from ⟨hall2, HI.out.2.2.1, hm2, hL'⟩)
      obtain ⟨xi, xp, xf⟩ := x
      unfold qVal It.val
      dsimp only
      have hql : Q < w3.heap.size := HT3.out.q.lt
      have HSZ := Lib.hid (show w.heap.size ≤ wr.heap.size ∧ wr.heap.size ≤ w3.heap.size from ⟨HT1.out.below.size, hbel.size⟩)
      have p0 := HT3.out.q.cell 0 _ rfl
      have p1 := HT3.out.q.cell 1 _ rfl
      have p2 := HT3.out.q.cell 2 _ rfl
      have p3 := HT3.out.q.cell 3 _ rfl
      have p4 := HT3.out.q.cell 4 _ rfl
      have p5 := HT3.out.q.cell 5 _ rfl
      have f0 := HT3.out.q.free 0
      have f1 := HT3.out.q.free 1
      have f2 := HT3.out.q.free 2
      have f3 := HT3.out.q.free 3
      have f4 := HT3.out.q.free 4
      have f5 := HT3.out.q.free 5
      have hne : ¬ Q = w3.heap.size := by omega
      have hne1 : ¬ Q = w3.heap.size + 1 := by omega
      clear htake hrq hsub hlen hbel hall2 hu hL' hm2 CT q0 q1 q2 q3 q4 q5 m0
      go_upto_region 5 with fail
      have hu1 := set1_upd w3 Q k (.slice ao2 m2 cap2) T'
      have hq1 := set1_at HT3.out.q k (.slice ao2 m2 cap2) T'
      obtain ⟨W4, hW4⟩ : ∃ W, set1 w3 Q k (.slice ao2 m2 cap2) T' = W := ⟨_, rfl⟩
      rw [hW4] at hu1 hq1
      have hsz4 : W4.heap.size = w3.heap.size := by rw [← hW4]; simp [set1, World.setCell]
      unfold set1 at hW4
      rw [hW4, ← hsz4]
      have HW5 : Hid (∃ W N X, W = (W4.alloc (.cells #[.int .i64 k, .slice ao2 m2 cap2, .int .i64 (T' 0), .int .i64 (T' 1), .int .i64 (T' 2), .int .i64 (T' 3)] 47)).alloc (.cells #[.int .i64 xi, .int .i64 xp, .int .i64 xf] 27) ∧ N = W4.heap.size ∧ X = W4.heap.size + 1 ∧ BlockAt W X 27 [.int .i64 xi, .int .i64 xp, .int .i64 xf] ∧ Upd [Q] w3 W ∧ BlockAt W Q 47 (qC k (.slice ao2 m2 cap2) T')) :=
        Lib.hid ⟨_, _, _, rfl, rfl, rfl, by simpa using BlockAt.new (W4.alloc (.cells #[.int .i64 k, .slice ao2 m2 cap2, .int .i64 (T' 0), .int .i64 (T' 1), .int .i64 (T' 2), .int .i64 (T' 3)] 47)) 27 [.int .i64 xi, .int .i64 xp, .int .i64 xf], (hu1.trans (Upd.alloc _ _ _)).trans (Upd.alloc _ _ _), (hq1.alloc _).alloc _⟩
      obtain ⟨W5, N, X, hW5, hN, hX, hx5, hu5, hq5⟩ := HW5.out
      rw [← hX, ← hN]
      rw [← hW5]
      have x0 := hx5.cell 0 _ rfl
      have x1 := hx5.cell 1 _ rfl
      have x2 := hx5.cell 2 _ rfl
      have HU5 := Lib.hid (And.intro hu5 hq5)
      have HO5 := Lib.hid (hu5.owns HT3.out.own (fun q hq hh => HT3.out.ne q hq (by simpa using hh)))
      have hn900 : out.length + 1 ≤ 900 := by have := HI2.out.2.2.2; omega
      have hbs : w.heap.size ≤ W5.heap.size := by have := HSZ.out; have := hu5.size; omega
      clear HW5 hW5 hN hX hW4 hu1 hq1 hsz4 hx5 hu5 hq5 p0 p1 p2 p3 p4 p5 f0 f1 f2 f3 f4 f5 hne hne1 hql
      go_wp2_with (at_builtin; refine wpList_append_at W5 rfl (.tmp 18) (.tmp 20) 37 rfl w.heap.size 27 3 24 Try.infoItem (by kernel_rfl) rfl (by decide) u3 out.length _ rfl HO5.out [.int .i64 xi, .int .i64 xp, .int .i64 xf] rfl rfl rfl (by unfold maxLen; omega) (by omega) hbs ?_)
      intro g6 cap6 w6 hown6 hu6 hg6
      have HT6 : Hid (TL w w6 Q k o (.slice ao2 m2 cap2) (.slice (some ⟨g6, 0, none⟩) (out.length + 1) cap6) L' T' (out ++ [⟨xi, xp, xf⟩])) := Lib.hid (by
        have hlt := HT1.out.own.lt
        have hQl := HT1.out.q.lt
        have hs1 := HSZ.out
        have hs2 := HU5.out.1.size
        have hqv : ∀ q, (Value.slice ao2 m2 cap2).ownBlock = some q → ¬ q = Q ∧ u3.ownBlock ≠ some q ∧ q < w3.heap.size := fun q hq => by
          rcases HRQ.out.old q hq with h | ⟨h1, h2⟩
          · refine ⟨fun e => HT1.out.ne3 (by rw [h, e]), fun e => HT1.out.ne2 q e h, ?_⟩
            obtain ⟨x, hx⟩ : ∃ x, L[0]? = some x := ⟨L[0]'(by have := HI.out.2.2.2.2; have := HI2.out.2.2.2; omega), by simp⟩
            obtain ⟨g', d', hv', c', -, -⟩ := HT3.out.row.get hx
            cases hv'
            cases h
            exact World.block_lt_of_cell? _ _ c'
          · exact ⟨by omega, fun e => by have := hlt q e; omega, h2⟩
        refine ⟨HU5.out.2.keep hu6 (by simp; exact fun e => HT1.out.ne Q e rfl), ?_, ?_, (HT3.out.below.trans (HU5.out.1.below HT3.out.below.size (by simp; exact HT1.out.low))).trans (hu6.below hbs (fun q hq => (hlt q (by simpa using hq)).1)), HT1.out.low, fun q hq => ?_, fun q hq hq2 => ?_, fun hq => (hqv Q hq).1 rfl, r', o2, HRQ.out.rel, HI2.out.1, by rw [HI2.out.2.1]; simp⟩
        · exact (HRQ.out.row.keep HU5.out.1 (fun q hq => by simp; exact (hqv q hq).1)).keep hu6 (fun q hq => by simp; exact (hqv q hq).2.1)
        · rw [List.length_append, cellsI_append]; exact hown6
        · cases hq
          rcases hg6 with h | h
          · exact HT1.out.ne _ h
          · have : g6 ≠ Q := by omega
            exact this
        · cases hq
          rcases hg6 with h | h
          · exact (hqv _ hq2).2.1 h
          · have h7 : g6 < w3.heap.size := (hqv _ hq2).2.2
            omega)
      clear hown6 hu6 hg6 HO5 x0 x1 x2
      go_wp2_with fail
      go_roundw
      case rel => exact ⟨_, L', T', out ++ [⟨xi, xp, xf⟩], m2, by have := HI2.out.2.2.2; simp; omega, by simp [sliceLen_mk], ⟨ao2, cap2, rfl⟩, HI2.out.2.2.1, HT6⟩
      case measure =>
        have h8 := HI2.out.2.2.2
        simp [sliceLen_mk, hsl]
        omega
end Go.Proofs.Ytapoikegoknlcaa
