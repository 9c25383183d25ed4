/- Layer 23: calls at a gate beside a queue. -/
import Derived.Test.YtklbnldkfohkpaaGateH
namespace Go.Proofs.Ytklbnldkfohkpaa
open Go.RowKit
theorem Beside.sub {base : Nat} {w : World} {gb : Nat} {g : Gt} {b : Nat} {most n : Int} {r : Nat → Row} {S S' : List Nat} (h : Beside base w gb g b most n r S) (hs : ∀ k ∈ S', k ∈ S) : Beside base w gb g b most n r S' := by
  obtain ⟨v, hq, hS, hg⟩ := h
  refine ⟨v, hq, fun k hk => hS k (hs k hk), hg.sub (fun k hk => ?_)⟩
  rcases List.mem_append.1 hk with h | h
  · exact List.mem_append_left _ h
  · exact List.mem_append_right _ (hs k h)
theorem Beside.next {base : Nat} {w w' : World} {gb : Nat} {g : Gt} {b : Nat} {most n : Int} {r : Nat → Row} {S : List Nat} (h : Beside base w gb g b most n r S) (u : Upd [] w w') : Beside base w' gb g b most n r S := by
  obtain ⟨T, hg, hk⟩ := h.gate
  exact hk g w' [] (hg.next u) (hg.step0 u) (by simp)
theorem Beside.new {base : Nat} {w w' : World} {gb : Nat} {g : Gt} {b : Nat} {most n : Int} {r : Nat → Row} {S : List Nat} (h : Beside base w gb g b most n r S) (u : Upd [] w w') {z : Nat} (hz : w.heap.size ≤ z) (hz' : z < w'.heap.size) : Beside base w' gb g b most n r (z :: S) := by
  obtain ⟨T, hg, hk⟩ := h.gate
  exact hk g w' [z] (hg.new u hz hz') (hg.step0 u) (by simpa using hz)
theorem Beside.alloc {base : Nat} {w : World} {gb : Nat} {g : Gt} {b : Nat} {most n : Int} {r : Nat → Row} {S : List Nat} (h : Beside base w gb g b most n r S) (o : Obj) : Beside base (w.alloc o) gb g b most n r (w.heap.size :: S) := h.new (Upd.alloc [] w o) (Nat.le_refl _) (by simp)
theorem Beside.base_le {base : Nat} {w : World} {gb : Nat} {g : Gt} {b : Nat} {most n : Int} {r : Nat → Row} {S : List Nat} (h : Beside base w gb g b most n r S) : base ≤ w.heap.size := by
  obtain ⟨T, hg, hk⟩ := h.gate; exact hg.base_le
theorem Beside.step0 {base : Nat} {w w' : World} {gb : Nat} {g : Gt} {b : Nat} {most n : Int} {r : Nat → Row} {S : List Nat} (h : Beside base w gb g b most n r S) (u : Upd [] w w') : QStep base S w w' := by
  obtain ⟨T, hg, hk⟩ := h.gate; exact (hg.step0 u).sub (fun k hk => List.mem_append_right _ hk)
theorem GateAt.beside {base : Nat} {w : World} {gb : Nat} {g : Gt} {S : List Nat} (hg : GateAt base w gb g S) :
    ∃ T, (∀ k ∈ T ++ S, k < w.heap.size) ∧ ∀ (b : Nat) (most n' : Int) (r' : Nat → Row) (w' : World), QS base w' b most n' r' (T ++ S) → QStep base (T ++ S) w w' → Beside base w' gb g b most n' r' S := by
  have hlt := hg.lt
  obtain ⟨qb, lb, um, hg⟩ := hg
  obtain ⟨v1, hq1, hb, hS⟩ := hg.q
  have a1 := hg.ap.1
  have a2 := hg.ap.2.1
  have a3 := hg.ap.2.2
  refine ⟨gb :: lb :: um :: qBlocks qb v1, fun k hk => ?_, fun b most n' r' w' hq' st => ?_⟩
  · simp only [List.cons_append, List.mem_cons, List.mem_append] at hk
    rcases hk with rfl | rfl | rfl | hk | hk
    · exact hg.blk.lt
    · exact hg.lim.lt
    · exact hg.set.lt
    · exact hq1.may_lt (qBlocks_may.1 hk)
    · exact hlt k hk
  · obtain ⟨v', hq2, hb2, hS2⟩ := hq'
    obtain ⟨T', u, hT⟩ := st.asUpd
    refine ⟨v', hq2, fun k hk => (hS2 k (by simp [hk])).2, qb, lb, um, st.block (by simp) hg.blk, ⟨v1, hq1.away u (fun hh => (hT _ hh).2 ?_) (fun q k hq hk hh => (hT _ hh).2 ?_), hb2, fun k hk => ?_⟩, st.block (by simp) hg.lim, ?_, hg.gl, hg.gm, hg.lm, hg.low, ?_, ?_, ?_⟩
    · simp [qBlocks_may.2 (show QMay qb v1 qb from .inl rfl)]
    · simp [qBlocks_may.2 (show QMay qb v1 k from .inr ⟨q, hq, hk⟩)]
    · simp only [List.mem_cons, List.mem_append] at hk
      rcases hk with rfl | rfl | rfl | hk | hk
      · exact ⟨(hS2 _ (by simp)).1, (hS _ (by simp)).2⟩
      · exact ⟨(hS2 _ (by simp)).1, (hS _ (by simp)).2⟩
      · exact ⟨(hS2 _ (by simp)).1, (hS _ (by simp)).2⟩
      · have hk := qBlocks_may.1 hk
        exact ⟨hq2.may_lt hk, fun hm => (hS2 k (by simp [qBlocks_may.2 hm])).2 hk⟩
      · exact ⟨(hS2 _ (by simp [hk])).1, (hS _ (by simp [hk])).2⟩
    · exact hg.set.keep u (fun hh => (hT _ hh).2 (by simp))
    · intro hh
      rcases List.mem_append.1 hh with hh | hh
      · exact (hS2 gb (by simp)).2 (qBlocks_may.1 hh)
      · exact a1 hh
    · intro hh
      rcases List.mem_append.1 hh with hh | hh
      · exact (hS2 lb (by simp)).2 (qBlocks_may.1 hh)
      · exact a2 hh
    · intro hh
      rcases List.mem_append.1 hh with hh | hh
      · exact (hS2 um (by simp)).2 (qBlocks_may.1 hh)
      · exact a3 hh
theorem newQ_b {base gb : Nat} {g : Gt} (most : Int) (w : World) (h : GateAt base w gb g []) : Calls Try.prog 10 #[.int .i64 most] w fun e w' =>
    e = .returned (.pointer (some ⟨w.heap.size, 0, none⟩)) ∧ Beside base w' gb g w.heap.size most 0 (fun _ => ⟨[], false, 0⟩) [] ∧ QStep base [] w w' := by
  obtain ⟨T, hlt, hk⟩ := h.beside
  refine (newQ_qs most base (T ++ []) w h.base_le hlt).mono ?_
  rintro e w' ⟨rfl, hq, hst⟩
  exact ⟨rfl, hk _ _ _ _ _ hq hst, hst.sub (by simp)⟩
theorem enter_b {base gb : Nat} {g : Gt} {b : Nat} {most n : Int} {r : Nat → Row} {S : List Nat} (p : Nat) (x : It) (w : World) (h : Beside base w gb g b most n r S) (ho : g.Ok) (hp : p < 4) (hx : x.prio = (p : Int)) :
    Calls Try.prog 11 #[.pointer (some ⟨gb, 0, none⟩), x.val] w fun e w' => ∃ what sh is g', EnterIs g p x what sh is g' ∧ e = .returned (.tuple #[.int .i64 what, sh.val, .bool is]) ∧ Beside base w' gb g' b most n r S ∧ QStep base S w w' := by
  obtain ⟨T, hg, hk⟩ := h.gate
  refine (enter_any base gb g (T ++ S) p x w hg ho hp hx).mono ?_
  rintro e w' ⟨what, sh, is, g', he, rfl, hp⟩
  exact ⟨what, sh, is, g', he, rfl, hk g' w' [] hp.at_ hp.st (by simp), hp.st.sub (fun k hk => List.mem_append_right _ hk)⟩
theorem put_b {base gb : Nat} {g : Gt} {b : Nat} {most n : Int} {r : Nat → Row} {S : List Nat} (p : Nat) (x : It) (w : World) (h : Beside base w gb g b most n r S) (hr : RowsOk r n) (hp : p < 4) (hx : x.prio = (p : Int)) (hn : n ≤ 1000) (hm0 : 0 ≤ most) (hm : most ≤ 1000) :
    Calls Try.prog 12 #[.pointer (some ⟨b, 0, none⟩), x.val] w fun e w' => ∃ r' n' y is, PutIs most n r p x r' n' y is ∧ e = .returned (.tuple #[y.val, .bool is]) ∧ Beside base w' gb g b most n' r' S ∧ QStep base S w w' := by
  obtain ⟨T, hq, hk⟩ := h.queue
  refine (put_qs base b most n r (T ++ S) p x w hq hp hx (by have := hr.tot; omega) (by omega) (fun q hq => by have := hr.row hq; omega) (by omega) (by omega)).mono ?_
  rintro e w' ⟨r', n', y, is, hpi, rfl, hq', hst⟩
  exact ⟨r', n', y, is, hpi, rfl, hk _ _ _ hq' hst, hst.sub (fun k hk => List.mem_append_right _ hk)⟩
theorem take_b {base gb : Nat} {g : Gt} {b : Nat} {most n : Int} {r : Nat → Row} {S : List Nat} (w : World) (h : Beside base w gb g b most n r S) (hr : RowsOk r n) (hn : n ≤ 1000) :
    Calls Try.prog 13 #[.pointer (some ⟨b, 0, none⟩)] w fun e w' => ∃ r' x is, TakeIs r r' x is ∧ e = .returned (.tuple #[x.val, .bool is]) ∧ Beside base w' gb g b most (if is then n - 1 else n) r' S ∧ QStep base S w w' := by
  obtain ⟨T, hq, hk⟩ := h.queue
  refine (take_qs base b most n r (T ++ S) w hq (by have := hr.tot; omega) (by omega) (fun q hq => by have := hr.row hq; omega) (fun q hq hne => hr.ne hq hne)).mono ?_
  rintro e w' ⟨r', x, is, ht, rfl, hq', hst⟩
  exact ⟨r', x, is, ht, rfl, hk _ _ _ hq' hst, hst.sub (fun k hk => List.mem_append_right _ hk)⟩
theorem done_b {base gb : Nat} {g : Gt} {b : Nat} {most n : Int} {r : Nat → Row} {S : List Nat} (now id took : Int) (well : Bool) (w : World) (h : Beside base w gb g b most n r S) (ho : g.Ok) (h0 : 0 ≤ now) (h1 : now ≤ 1000000) (h2 : 1 ≤ took) (h3 : took ≤ 1000) :
    Calls Try.prog 14 #[.pointer (some ⟨gb, 0, none⟩), .int .i64 now, .int .i64 id, .int .i64 took, .bool well] w fun e w' => ∃ ids v g', DoneIs g now id took well ids g' ∧ e = .returned v ∧ OwnInts w.heap.size w' v ids ∧ Beside base w' gb g' b most n r (v.ownBlock.toList ++ S) ∧ QStep base S w w' := by
  obtain ⟨T, hg, hk⟩ := h.gate
  refine (gdone_any base gb g now id took well (T ++ S) w hg ho h0 h1 h2 h3).mono ?_
  rintro e w' ⟨ids, v, g', hd, rfl, hi, hg', hst⟩
  refine ⟨ids, v, g', hd, rfl, hi, hk g' w' _ hg' hst (fun k hk => ?_), hst.sub (fun k hk => List.mem_append_right _ hk)⟩
  simp at hk
  exact (hi.lt k hk).1
theorem under_b {base gb : Nat} {g : Gt} {b : Nat} {most n : Int} {r : Nat → Row} {S : List Nat} (w : World) (h : Beside base w gb g b most n r S) :
    Calls Try.prog 15 #[.pointer (some ⟨gb, 0, none⟩)] w fun e w' => e = .returned (.int .i64 g.U.length) ∧ w = w' := by
  obtain ⟨T, hg, hk⟩ := h.gate
  exact under_any base gb g _ w hg
theorem limOne {l : Lim} (h : l.Ok) (h1 : l.high = 1) (now u took : Int) (well : Bool) (h0 : 0 ≤ now) (h2 : now ≤ 1000000) (h3 : 1 ≤ took) (h4 : took ≤ 1000) : (l.done now u took well).Ok ∧ (l.done now u took well).high = 1 ∧ (l.done now u took well).lim = 1 := by
  have hk := h.done (under := u) (well := well) h0 h2 h3 h4
  have hh : (l.done now u took well).high = 1 := by
    have hn : (l.note took well).high = 1 := by unfold Lim.note; split <;> exact h1
    unfold Lim.done Lim.fall
    split
    · exact hn
    · split <;> exact hn
  exact ⟨hk, hh, by have := hk.l0; have := hk.l1; have := hk.l2; omega⟩
end Go.Proofs.Ytklbnldkfohkpaa
