/- Layer 23: the walks of Done and Gone. -/
import Derived.Test.YtklbnldkfohkpaaGateD
namespace Go.Proofs.Ytklbnldkfohkpaa
open Go.RowKit
inductive DoneIs (g : Gt) (now id took : Int) (well : Bool) : List Int → Gt → Prop
  | no : id ∉ g.U → DoneIs g now id took well [] g
  | yes (ids : List Int) (g' : Gt) : id ∈ g.U → NextRun ⟨g.most, g.n, g.r, g.lim.done now g.U.length took well, g.U.erase id⟩ ids g' → DoneIs g now id took well ids g'
def GDonePost (base gb : Nat) (g : Gt) (now id took : Int) (well : Bool) (S : List Nat) (w : World) (e : Ending) (w' : World) : Prop :=
  ∃ ids v g', DoneIs g now id took well ids g' ∧ e = .returned v ∧ OwnInts w.heap.size w' v ids ∧ GateAt base w' gb g' (v.ownBlock.toList ++ S) ∧ QStep base S w w'
theorem Gt.Ok.done {g : Gt} (h : g.Ok) {now id took : Int} {well : Bool} (h0 : 0 ≤ now) (h1 : now ≤ 1000000) (h2 : 1 ≤ took) (h3 : took ≤ 1000) : Gt.Ok ⟨g.most, g.n, g.r, g.lim.done now g.U.length took well, g.U.erase id⟩ :=
  ⟨h.rows, h.n1, h.m0, h.m1, h.lim.done h0 h1 h2 h3, by have := h.u; have := List.length_erase_le (a := id) (l := g.U); dsimp only; omega⟩
set_option maxRecDepth 100000 in
set_option maxHeartbeats 4000000 in
theorem gdone_any (base gb : Nat) (g : Gt) (now id took : Int) (well : Bool) (S : List Nat) (w : World) (h : GateAt base w gb g S) (ho : g.Ok) (h0 : 0 ≤ now) (h1 : now ≤ 1000000) (h2 : 1 ≤ took) (h3 : took ≤ 1000) :
    Calls Try.prog 14 #[.pointer (some ⟨gb, 0, none⟩), .int .i64 now, .int .i64 id, .int .i64 took, .bool well] w (GDonePost base gb g now id took well S w) := by
  obtain ⟨qb, lb, um, h⟩ := h
  have HG := Lib.hid h
  have HO := Lib.hid ho
  obtain ⟨c0, c1, c2⟩ := h.cells
  have hlk := h.set.look (P := Try.prog) tMapBool tInt (zeroBool w) id
  have HN0 : Hid (1 ≤ took ∧ took ≤ 1000) := Lib.hid ⟨h2, h3⟩
  by_cases hid : id ∈ g.U
  · rw [show decide (id ∈ g.U) = true by simpa using hid] at hlk
    have HID := Lib.hid hid
    have CD := Lib.hid (done_any lb g.lim now g.U.length took well w.drew (h.lim.keep (Upd.drew [] _) (by simp)) ho.lim h0 h1 h2 h3)
    clear h ho hid
    go_enter Try.func14, Try.ntmps14
    go_wp2_with fail
    refine wp_region_still_tail 9 (by kernel_rfl) (by kernel_rfl) ?_
    simp only [List.take_succ_cons, List.take_zero, List.drop_succ_cons, List.drop_zero]
    repeat still_step
    still_call ((under_any base gb g S w.drew ⟨qb, lb, um, HG.out.next (Upd.drew [] w)⟩).mono (fun _ _ h => ⟨h.1, h.2.symm⟩))
    repeat still_step
    refine wpStill_nil ?_
    change wpList _ _ _ _ _ w.drew
    go_wp2_with fail
    refine CD.out.mono ?_
    rintro e w2 ⟨rfl, hl2, hu2⟩
    have hg2 := (HG.out.next (Upd.drew [] w)).limit hl2 hu2
    have HG2 := Lib.hid hg2
    have HST2 : Hid (QStep base S w w2) := Lib.hid (QStep.upd ((Upd.drew [lb] w).trans hu2) HG.out.q.base_le (by simp; exact ⟨HG.out.low.2.1, HG.out.ap.2.1⟩) (fun k hk => HG.out.q.lt k (by simp [hk])))
    obtain ⟨d0, d1, d2⟩ := hg2.cells
    clear hl2 hu2 hg2 CD hlk c0 c1 c2
    obtain ⟨w3, hst, hm3, hu3, -⟩ := MapU.drop HG2.out.set tMapBool tInt id 0
    have hg3 := HG2.out.map hm3 hu3
    have HG3 : Hid (GateAt base w3 gb ⟨g.most, g.n, g.r, g.lim.done now g.U.length took well, g.U.erase id⟩ S) := Lib.hid ⟨qb, lb, um, hg3⟩
    have HST3 : Hid (QStep base S w w3) := Lib.hid (HST2.out.trans (QStep.upd hu3 HG2.out.q.base_le (by simp; exact ⟨HG2.out.low.2.2, HG2.out.ap.2.2⟩) (fun k hk => HG2.out.q.lt k (by simp [hk]))))
    have CX := Lib.hid (next_any23 base gb ⟨g.most, g.n, g.r, g.lim.done now g.U.length took well, g.U.erase id⟩ S w3 HG3.out (HO.out.done h0 h1 h2 h3))
    clear hm3 hu3 hg3 HG2 HST2 h0 h1 h2 h3
    go_wp2_with fail
    refine CX.out.mono ?_
    rintro e w4 ⟨ids, v, g', hrun, rfl, hi, hg, hst4⟩
    have HF : Hid (GDonePost base gb g now id took well S w (.returned v) w4) := Lib.hid ⟨ids, v, g', DoneIs.yes ids g' HID.out hrun, rfl, ownsRow_mono hi HST3.out.size, hg, HST3.out.trans hst4⟩
    clear hrun hi hg hst4 CX hst d0 d1 d2
    go_wp2_with fail
    go_ret
    exact HF.out
  · rw [show decide (id ∈ g.U) = false by simpa using hid] at hlk
    have HD := Lib.hid (DoneIs.no (now := now) (took := took) (well := well) hid)
    clear h ho hid
    go_enter Try.func14, Try.ntmps14
    go_wp2_with fail
    go_ret
    exact ⟨[], _, g, HD.out, rfl, OwnInts.nil _ _, ⟨qb, lb, um, by simpa [Value.ownBlock] using HG.out⟩, QStep.refl _ _ _⟩
inductive GoneIs (g : Gt) (id : Int) : List Int → Gt → Prop
  | wait (r' : Nat → Row) (ids : List Int) (g' : Gt) : DropIs g.r id r' true → NextRun ⟨g.most, g.n - 1, r', g.lim, g.U⟩ ids g' → GoneIs g id ids g'
  | under (r' : Nat → Row) (ids : List Int) (g' : Gt) : DropIs g.r id r' false → NextRun ⟨g.most, g.n, r', g.lim, g.U.erase id⟩ ids g' → GoneIs g id ids g'
def GGonePost (base gb : Nat) (g : Gt) (id : Int) (S : List Nat) (w : World) (e : Ending) (w' : World) : Prop :=
  ∃ ids v g', GoneIs g id ids g' ∧ e = .returned v ∧ OwnInts w.heap.size w' v ids ∧ GateAt base w' gb g' (v.ownBlock.toList ++ S) ∧ QStep base S w w'
theorem Gt.Ok.wait {g : Gt} (h : g.Ok) {r' : Nat → Row} {id : Int} (hd : DropIs g.r id r' true) : Gt.Ok ⟨g.most, g.n - 1, r', g.lim, g.U⟩ :=
  ⟨by simpa using h.rows.drop hd, by have := h.n1; dsimp only; omega, h.m0, h.m1, h.lim, h.u⟩
theorem Gt.Ok.under {g : Gt} (h : g.Ok) {r' : Nat → Row} {id : Int} (hd : DropIs g.r id r' false) : Gt.Ok ⟨g.most, g.n, r', g.lim, g.U.erase id⟩ :=
  ⟨by simpa using h.rows.drop hd, h.n1, h.m0, h.m1, h.lim, by have := h.u; have := List.length_erase_le (a := id) (l := g.U); dsimp only; omega⟩
set_option maxRecDepth 100000 in
set_option maxHeartbeats 4000000 in
theorem ggone_any (base gb : Nat) (g : Gt) (id : Int) (S : List Nat) (w : World) (h : GateAt base w gb g S) (ho : g.Ok) :
    Calls Try.prog 25 #[.pointer (some ⟨gb, 0, none⟩), .int .i64 id] w (GGonePost base gb g id S w) := by
  obtain ⟨qb, lb, um, h⟩ := h
  have HG := Lib.hid h
  have HO := Lib.hid ho
  obtain ⟨c0, c1, c2⟩ := h.cells
  have CD := Lib.hid (drop_qs base qb g.most g.n g.r _ id w h.q ho.n0 (by have := ho.n1; omega) (fun q hq => by have := ho.len q hq; omega) (fun q hq hne => ho.ne q hq hne))
  clear h ho
  go_enter Try.func25, Try.ntmps25
  go_wp2_with fail
  refine CD.out.mono ?_
  rintro e w2 ⟨r', is, hd, rfl, hq2, hst2⟩
  have HD := Lib.hid hd
  have hg2 := HG.out.queue hq2 hst2
  have HG2 := Lib.hid hg2
  have HST2 := Lib.hid (hst2.sub (T := S) (by simp +contextual))
  obtain ⟨d0, d1, d2⟩ := hg2.cells
  clear hd hq2 hst2 hg2 CD c0 c1 c2
  cases is with
  | true =>
    have HG3 : Hid (GateAt base w2 gb ⟨g.most, g.n - 1, r', g.lim, g.U⟩ S) := Lib.hid ⟨qb, lb, um, by simpa using HG2.out⟩
    have CX := Lib.hid (next_any23 base gb ⟨g.most, g.n - 1, r', g.lim, g.U⟩ S w2 HG3.out (HO.out.wait HD.out))
    go_wp2_with fail
    refine CX.out.mono ?_
    rintro e w4 ⟨ids, v, g', hrun, rfl, hi, hg, hst4⟩
    have HF : Hid (GGonePost base gb g id S w (.returned v) w4) := Lib.hid ⟨ids, v, g', GoneIs.wait r' ids g' HD.out hrun, rfl, ownsRow_mono hi HST2.out.size, hg, HST2.out.trans hst4⟩
    clear hrun hi hg hst4 CX d0 d1 d2
    go_wp2_with fail
    go_ret
    exact HF.out
  | false =>
    have HG2' : Hid (GateIs base w2 gb qb lb um ⟨g.most, g.n, r', g.lim, g.U⟩ S) := Lib.hid (by simpa using HG2.out)
    obtain ⟨w3, hst, hm3, hu3, -⟩ := MapU.drop HG2'.out.set tMapBool tInt id 0
    have hg3 := HG2'.out.map hm3 hu3
    have HG3 : Hid (GateAt base w3 gb ⟨g.most, g.n, r', g.lim, g.U.erase id⟩ S) := Lib.hid ⟨qb, lb, um, hg3⟩
    have HST3 : Hid (QStep base S w w3) := Lib.hid (HST2.out.trans (QStep.upd hu3 HG2'.out.q.base_le (by simp; exact ⟨HG2'.out.low.2.2, HG2'.out.ap.2.2⟩) (fun k hk => HG2'.out.q.lt k (by simp [hk]))))
    have CX := Lib.hid (next_any23 base gb ⟨g.most, g.n, r', g.lim, g.U.erase id⟩ S w3 HG3.out (HO.out.under HD.out))
    clear hm3 hu3 hg3
    go_wp2_with fail
    refine CX.out.mono ?_
    rintro e w4 ⟨ids, v, g', hrun, rfl, hi, hg, hst4⟩
    have HF : Hid (GGonePost base gb g id S w (.returned v) w4) := Lib.hid ⟨ids, v, g', GoneIs.under r' ids g' HD.out hrun, rfl, ownsRow_mono hi HST3.out.size, hg, HST3.out.trans hst4⟩
    clear hrun hi hg hst4 CX hst d0 d1 d2
    go_wp2_with fail
    go_ret
    exact HF.out
end Go.Proofs.Ytklbnldkfohkpaa
