/- Layer 23: a gate in memory. -/
import Derived.Test.YtklbnldkfohkpaaRowz
import Derived.Test.YtklbnldkfohkpaaSet
import Derived.Test.YtklbnldkfohkpaaAdaptB
import Derived.StillTailTactics
namespace Go.Proofs.Ytklbnldkfohkpaa
open Go.RowKit
/-- A gate: its queue (most, how many wait, rows), its limit, who is under way. -/
structure Gt where
  most : Int
  n : Int
  r : Nat → Row
  lim : Lim
  U : List Int
structure GateIs (base : Nat) (W : World) (gb qb lb um : Nat) (g : Gt) (S : List Nat) : Prop where
  blk : BlockAt W gb 71 [.pointer (some ⟨qb, 0, none⟩), .pointer (some ⟨lb, 0, none⟩), .map (some um)]
  q : QS base W qb g.most g.n g.r (gb :: lb :: um :: S)
  lim : LimAt W lb g.lim
  set : MapU W um g.U
  gl : gb ≠ lb
  gm : gb ≠ um
  lm : lb ≠ um
  low : base ≤ gb ∧ base ≤ lb ∧ base ≤ um
  ap : gb ∉ S ∧ lb ∉ S ∧ um ∉ S
def GateAt (base : Nat) (W : World) (gb : Nat) (g : Gt) (S : List Nat) : Prop := ∃ qb lb um, GateIs base W gb qb lb um g S
theorem GateIs.next {base : Nat} {W W' : World} {gb qb lb um : Nat} {g : Gt} {S : List Nat} (h : GateIs base W gb qb lb um g S) (u : Upd [] W W') : GateIs base W' gb qb lb um g S :=
  ⟨h.blk.keep u (by simp), h.q.next u, h.lim.keep u (by simp), h.set.keep u (by simp), h.gl, h.gm, h.lm, h.low, h.ap⟩
theorem GateIs.new {base : Nat} {W W' : World} {gb qb lb um : Nat} {g : Gt} {S : List Nat} (h : GateIs base W gb qb lb um g S) (u : Upd [] W W') {z : Nat} (hz : W.heap.size ≤ z) (hz' : z < W'.heap.size) : GateIs base W' gb qb lb um g (z :: S) := by
  have h1 := h.blk.lt
  have h2 := h.lim.lt
  have h3 := h.set.lt
  refine ⟨h.blk.keep u (by simp), (h.q.new u hz hz').sub (by simp +contextual), h.lim.keep u (by simp), h.set.keep u (by simp), h.gl, h.gm, h.lm, h.low, ?_, ?_, ?_⟩
  · simp; exact ⟨by omega, h.ap.1⟩
  · simp; exact ⟨by omega, h.ap.2.1⟩
  · simp; exact ⟨by omega, h.ap.2.2⟩
theorem GateIs.sub {base : Nat} {W : World} {gb qb lb um : Nat} {g : Gt} {S T : List Nat} (h : GateIs base W gb qb lb um g S) (hs : ∀ k ∈ T, k ∈ S) : GateIs base W gb qb lb um g T :=
  ⟨h.blk, h.q.sub (by intro k hk; simp at hk ⊢; exact hk.imp _root_.id (fun hk => hk.imp _root_.id (fun hk => hk.imp _root_.id (hs k)))), h.lim, h.set, h.gl, h.gm, h.lm, h.low, fun hh => h.ap.1 (hs _ hh), fun hh => h.ap.2.1 (hs _ hh), fun hh => h.ap.2.2 (hs _ hh)⟩
/-- A block beside the gate is written. -/
theorem GateIs.write {base : Nat} {W W' : World} {gb qb lb um : Nat} {g : Gt} {S T : List Nat} (h : GateIs base W gb qb lb um g S) (u : Upd T W W') (hT : ∀ k ∈ T, k ∈ S) : GateIs base W' gb qb lb um g S :=
  ⟨h.blk.keep u (fun hh => h.ap.1 (hT _ hh)), h.q.write u (fun k hk => by simp [hT k hk]), h.lim.keep u (fun hh => h.ap.2.1 (hT _ hh)), h.set.keep u (fun hh => h.ap.2.2 (hT _ hh)), h.gl, h.gm, h.lm, h.low, h.ap⟩
/-- The queue was turned. -/
theorem GateIs.queue {base : Nat} {W W' : World} {gb qb lb um : Nat} {g : Gt} {S : List Nat} (h : GateIs base W gb qb lb um g S) {n' : Int} {r' : Nat → Row} (hq : QS base W' qb g.most n' r' (gb :: lb :: um :: S)) (st : QStep base (gb :: lb :: um :: S) W W') : GateIs base W' gb qb lb um ⟨g.most, n', r', g.lim, g.U⟩ S := by
  refine ⟨st.block (by simp) h.blk, hq, ?_, ?_, h.gl, h.gm, h.lm, h.low, h.ap⟩
  · exact st.block (by simp) h.lim
  · obtain ⟨es, c, h1, h2⟩ := h.set.is
    refine ⟨⟨es, c, ?_, h2⟩, h.set.nodup⟩
    unfold MapAt at *; rw [st.same um (by simp)]; exact h1
/-- The set was turned. -/
theorem GateIs.map {base : Nat} {W W' : World} {gb qb lb um : Nat} {g : Gt} {S : List Nat} (h : GateIs base W gb qb lb um g S) {U' : List Int} (hm : MapU W' um U') (u : Upd [um] W W') : GateIs base W' gb qb lb um ⟨g.most, g.n, g.r, g.lim, U'⟩ S :=
  ⟨h.blk.keep u (by simp; exact h.gm), h.q.write u (by simp), h.lim.keep u (by simp; exact h.lm), hm, h.gl, h.gm, h.lm, h.low, h.ap⟩
/-- The limit was turned. -/
theorem GateIs.limit {base : Nat} {W W' : World} {gb qb lb um : Nat} {g : Gt} {S : List Nat} (h : GateIs base W gb qb lb um g S) {l' : Lim} (hl : LimAt W' lb l') (u : Upd [lb] W W') : GateIs base W' gb qb lb um ⟨g.most, g.n, g.r, l', g.U⟩ S :=
  ⟨h.blk.keep u (by simp; exact h.gl), h.q.write u (by simp), hl, h.set.keep u (by simp; exact fun e => h.lm e.symm), h.gl, h.gm, h.lm, h.low, h.ap⟩
theorem GateIs.cells {base : Nat} {W : World} {gb qb lb um : Nat} {g : Gt} {S : List Nat} (h : GateIs base W gb qb lb um g S) : W.cell? ⟨gb, 0, none⟩ = some (.pointer (some ⟨qb, 0, none⟩)) ∧ W.cell? ⟨gb, 1, none⟩ = some (.pointer (some ⟨lb, 0, none⟩)) ∧ W.cell? ⟨gb, 2, none⟩ = some (.map (some um)) :=
  ⟨h.blk.cell 0 _ rfl, h.blk.cell 1 _ rfl, h.blk.cell 2 _ rfl⟩
theorem tMapBool : Try.prog.underlying 69 = some (.map 3 4) := by kernel_rfl
theorem zeroBool (w : World) : (zeroValue 4).run Try.prog w = .ok (.bool false) w := by kernel_rfl
theorem MapU.len {w : World} {r : Nat} {U : List Int} (h : MapU w r U) : (Builtin.len_ #[69] 3 #[.map (some r)]).run Try.prog w = .ok (.int .i64 U.length) w := by
  obtain ⟨es, c, hm, hs⟩ := h.is
  simp [Builtin.len_, run_underlying tMapBool, MapKept.run_getObj_map hm, hs.length, goInt, Result.andThen]
theorem under_any (base gb : Nat) (g : Gt) (S : List Nat) (w : World) (h : GateAt base w gb g S) :
    Calls Try.prog 15 #[.pointer (some ⟨gb, 0, none⟩)] w fun e w' => e = .returned (.int .i64 g.U.length) ∧ w = w' := by
  obtain ⟨qb, lb, um, h⟩ := h
  obtain ⟨c0, c1, c2⟩ := h.cells
  have hl := h.set.len
  clear h
  go_enter Try.func15, Try.ntmps15
  go_wp2_with fail
  go_ret
  exact ⟨rfl, rfl⟩
theorem limit_any (base gb : Nat) (g : Gt) (S : List Nat) (w : World) (h : GateAt base w gb g S) :
    Calls Try.prog 22 #[.pointer (some ⟨gb, 0, none⟩)] w fun e w' => e = .returned (.int .i64 g.lim.lim) ∧ w = w' := by
  obtain ⟨qb, lb, um, h⟩ := h
  obtain ⟨c0, c1, c2⟩ := h.cells
  have CL := Lib.hid (now_any lb g.lim w h.lim)
  clear h
  go_enter Try.func22, Try.ntmps22
  go_wp2_with fail
  refine CL.out.mono ?_
  rintro e w' ⟨rfl, rfl⟩
  go_wp2_with fail
  go_ret
  exact ⟨rfl, rfl⟩
theorem waiting_any (base gb : Nat) (g : Gt) (S : List Nat) (w : World) (h : GateAt base w gb g S) :
    Calls Try.prog 19 #[.pointer (some ⟨gb, 0, none⟩)] w fun e w' => e = .returned (.int .i64 g.n) ∧ w = w' := by
  obtain ⟨qb, lb, um, h⟩ := h
  obtain ⟨c0, c1, c2⟩ := h.cells
  have CL := Lib.hid (len_qs base qb g.most g.n g.r _ w h.q)
  clear h
  go_enter Try.func19, Try.ntmps19
  go_wp2_with fail
  refine CL.out.mono ?_
  rintro e w' ⟨rfl, rfl⟩
  go_wp2_with fail
  go_ret
  exact ⟨rfl, rfl⟩
def newGt (low high wait : Int) : Gt := ⟨wait, 0, fun _ => ⟨[], false, 0⟩, newLim low high, []⟩
set_option maxHeartbeats 1000000 in
theorem newGate_any (low high wait : Int) (base : Nat) (w : World) (hb : base ≤ w.heap.size) :
    Calls Try.prog 9 #[.int .i64 low, .int .i64 high, .int .i64 wait] w fun e w' => ∃ gb, e = .returned (.pointer (some ⟨gb, 0, none⟩)) ∧ GateAt base w' gb (newGt low high wait) [] ∧ QStep base [] w w' ∧ w.heap.size ≤ gb := by
  have hmm := @run_makeMap Try.prog
  have CN := Lib.hid (newQ_qs wait base [] w hb (by simp))
  have CL := Lib.hid (fun w => new_any low high w)
  go_enter Try.func9, Try.ntmps9
  go_wp2_with fail
  refine CN.out.mono ?_
  rintro e w1 ⟨rfl, hq, hst⟩
  have HQ := Lib.hid hq
  have HST := Lib.hid hst
  obtain ⟨qb, hqb⟩ : ∃ b, w.heap.size = b := ⟨_, rfl⟩
  have HQB := Lib.hid hqb
  have HQ' : Hid (QS base w1 qb wait 0 (fun _ => ⟨[], false, 0⟩) []) := Lib.hid (by rw [← hqb]; exact HQ.out)
  rw [hqb]
  clear hq hst CN HQ hqb
  go_wp2_with fail
  refine (CL.out _).mono ?_
  rintro e w2 ⟨rfl, hl, hu⟩
  have HL := Lib.hid hl
  have HU := Lib.hid hu
  obtain ⟨lb, hlb⟩ : ∃ b, w1.heap.size = b := ⟨_, rfl⟩
  have HLB := Lib.hid hlb
  rw [hlb] at HL
  rw [hlb]
  clear hl hu CL hlb
  go_wp2_with fail
  go_ret
  have us := HU.out.size
  have hlt := HL.out.lt
  have hl1 := HLB.out
  have e1 : (w2.alloc (.map #[] 0)).heap.size = w2.heap.size + 1 := by simp
  have u1 : Upd [] w2 ((w2.alloc (.map #[] 0)).alloc (.cells #[.pointer (some ⟨qb, 0, none⟩), .pointer (some ⟨lb, 0, none⟩), .map (some w2.heap.size)] 71)) := (Upd.alloc [] _ _).trans (Upd.alloc [] _ _)
  have hq2 := (HQ'.out.new HU.out (z := lb) (by omega) hlt)
  have hq3 := hq2.new (Upd.alloc [] w2 (.map #[] 0)) (z := w2.heap.size) (Nat.le_refl _) (by simp)
  have hq4 := hq3.new (Upd.alloc [] _ (.cells #[.pointer (some ⟨qb, 0, none⟩), .pointer (some ⟨lb, 0, none⟩), .map (some w2.heap.size)] 71)) (z := w2.heap.size + 1) (by rw [e1]; exact Nat.le_refl _) (by simp)
  have hss := HST.out.size
  refine ⟨w2.heap.size + 1, by simp, ⟨qb, lb, w2.heap.size, ?_, hq4.sub (by simp +contextual), HL.out.keep u1 (by simp), (MapU.new w2).keep (Upd.alloc [] _ _) (by simp), by omega, by omega, by omega, ⟨by omega, by omega, by omega⟩, by simp⟩, ?_, by omega⟩
  · have := BlockAt.new (w2.alloc (.map #[] 0)) 71 [.pointer (some ⟨qb, 0, none⟩), .pointer (some ⟨lb, 0, none⟩), .map (some w2.heap.size)]
    rwa [e1] at this
  · exact HST.out.trans (QStep.upd (HU.out.trans u1) (by omega) (by simp) (by simp))
/-- What becomes of one that comes. -/
inductive EnterIs (g : Gt) (p : Nat) (x : It) : Int → It → Bool → Gt → Prop
  | runs : (g.U.length : Int) < g.lim.lim → EnterIs g p x 1 zeroIt false ⟨g.most, g.n, g.r, g.lim, putU g.U x.id⟩
  | waits (r' : Nat → Row) (n' : Int) (y : It) : g.lim.lim ≤ g.U.length → PutIs g.most g.n g.r p x r' n' y false → EnterIs g p x 2 zeroIt false ⟨g.most, n', r', g.lim, g.U⟩
  | shed (r' : Nat → Row) (n' : Int) (y : It) : g.lim.lim ≤ g.U.length → PutIs g.most g.n g.r p x r' n' y true → y.id = x.id → EnterIs g p x 3 zeroIt false ⟨g.most, n', r', g.lim, g.U⟩
  | other (r' : Nat → Row) (n' : Int) (y : It) : g.lim.lim ≤ g.U.length → PutIs g.most g.n g.r p x r' n' y true → ¬ y.id = x.id → EnterIs g p x 2 y true ⟨g.most, n', r', g.lim, g.U⟩
structure GPost (base gb : Nat) (g' : Gt) (S : List Nat) (w w' : World) : Prop where
  at_ : GateAt base w' gb g' S
  st : QStep base S w w'
/-- The numbers of a gate are small. -/
structure Gt.Ok (g : Gt) : Prop where
  rows : RowsOk g.r g.n
  n1 : g.n ≤ 1000
  m0 : 0 ≤ g.most
  m1 : g.most ≤ 1000
  lim : g.lim.Ok
  u : (g.U.length : Int) ≤ 1000
theorem Gt.Ok.n0 {g : Gt} (h : g.Ok) : 0 ≤ g.n := by have := h.rows.tot; omega
theorem Gt.Ok.len {g : Gt} (h : g.Ok) (q : Nat) (hq : q < 4) : ((g.r q).items.length : Int) ≤ 1000 := by have := h.rows.row hq; have := h.n1; omega
theorem Gt.Ok.ne {g : Gt} (h : g.Ok) (q : Nat) (hq : q < 4) (hne : (g.r q).items ≠ []) : 1 ≤ g.n := h.rows.ne hq hne
def EnterPost (base gb : Nat) (g : Gt) (p : Nat) (x : It) (S : List Nat) (w : World) (e : Ending) (w' : World) : Prop :=
  ∃ what sh is g', EnterIs g p x what sh is g' ∧ e = .returned (.tuple #[.int .i64 what, sh.val, .bool is]) ∧ GPost base gb g' S w w'
end Go.Proofs.Ytklbnldkfohkpaa
