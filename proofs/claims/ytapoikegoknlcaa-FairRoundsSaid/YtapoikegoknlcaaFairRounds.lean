/- Layer 22: the walk of FairRounds. -/
import Derived.Test.YtapoikegoknlcaaFairPlain
import Derived.Deep.DeepCutAuto
import Derived.Deep.CutBlock
import Derived.RegionTactic
namespace Go.Proofs.Ytapoikegoknlcaa
open Go.RowKit
/-- The queue of the law, and a count of five flows beside it. -/
structure RQ (w W : World) (b s : Nat) (n : Int) (v : Nat → Value) (L : List It) (tk : Bool) (lst : Int) (C : Nat → Int) : Prop where
  one : QOne w W b 100 n v 1 L tk lst
  left : BlockAt W s 25 (arr5 C)
  may : ¬ QMay b v s
  low : w.heap.size ≤ s
theorem RQ.next {w W W' : World} {b s : Nat} {n : Int} {v : Nat → Value} {L : List It} {tk : Bool} {lst : Int} {C : Nat → Int} (h : RQ w W b s n v L tk lst C) (u : Upd [] W W') : RQ w W' b s n v L tk lst C :=
  ⟨h.one.next u, h.left.keep u (by simp), h.may, h.low⟩
theorem RQ.step {w W W' : World} {b s : Nat} {n m : Int} {v v' : Nat → Value} {L L' : List It} {tk tk' : Bool} {lst lst' : Int} {C : Nat → Int} (h : RQ w W b s n v L tk lst C) (hq : QAt W' w.heap.size b 100 m v' (oneRow 1 L' tk' lst')) (ho : OwnFrom W v v') (u : QUpd b v W W') : RQ w W' b s m v' L' tk' lst' C :=
  ⟨h.one.step hq u, u.block h.left h.may, ho.may h.left.lt h.may, h.low⟩
/-- A block beside the queue is written. -/
theorem QOne.write {w W : World} {b : Nat} {most n : Int} {v : Nat → Value} {P : Nat} {l : List It} {tk : Bool} {last : Int} (h : QOne w W b most n v P l tk last) {s : Nat} (hm : ¬ QMay b v s) (hs : w.heap.size ≤ s) (g : Nat) (x : Value) : QOne w (W.setCell ⟨s, g, none⟩ x) b most n v P l tk last :=
  ⟨h.q.away (Upd.setCell W ⟨s, g, none⟩ x) (by simp; exact fun e => hm (.inl e.symm)) (fun q k hq hk => by simp; exact fun e => hm (.inr ⟨q, hq, by rw [← e]; exact hk⟩)),
   h.below.trans ((Upd.setCell W ⟨s, g, none⟩ x).below h.below.size (by simpa using hs))⟩
theorem RQ.count {w W : World} {b s : Nat} {n : Int} {v : Nat → Value} {L : List It} {tk : Bool} {lst : Int} {C : Nat → Int} (h : RQ w W b s n v L tk lst C) (g : Nat) (hg : g < 5) (x : Int) : RQ w (W.setCell ⟨s, g, none⟩ (.int .i64 x)) b s n v L tk lst (upd C g x) :=
  ⟨h.one.write h.may h.low g _, by rw [← arr5_set C g hg x]; exact h.left.set g _, h.may, h.low⟩
/-- Two more rows of five beside it. -/
structure RL (w W : World) (b s t l : Nat) (n : Int) (v : Nat → Value) (L : List It) (tk : Bool) (lst : Int) (C T S : Nat → Int) : Prop where
  rq : RQ w W b s n v L tk lst C
  tb : BlockAt W t 25 (arr5 T)
  lb : BlockAt W l 25 (arr5 S)
  mt : ¬ QMay b v t
  ml : ¬ QMay b v l
  lt : w.heap.size ≤ t
  ll : w.heap.size ≤ l
  st : s ≠ t
  sl : s ≠ l
  tl : t ≠ l
theorem RL.next {w W W' : World} {b s t l : Nat} {n : Int} {v : Nat → Value} {L : List It} {tk : Bool} {lst : Int} {C T S : Nat → Int} (h : RL w W b s t l n v L tk lst C T S) (u : Upd [] W W') : RL w W' b s t l n v L tk lst C T S :=
  ⟨h.rq.next u, h.tb.keep u (by simp), h.lb.keep u (by simp), h.mt, h.ml, h.lt, h.ll, h.st, h.sl, h.tl⟩
theorem RL.step {w W W' : World} {b s t l : Nat} {n m : Int} {v v' : Nat → Value} {L L' : List It} {tk tk' : Bool} {lst lst' : Int} {C T S : Nat → Int} (h : RL w W b s t l n v L tk lst C T S) (hq : QAt W' w.heap.size b 100 m v' (oneRow 1 L' tk' lst')) (ho : OwnFrom W v v') (u : QUpd b v W W') : RL w W' b s t l m v' L' tk' lst' C T S :=
  ⟨h.rq.step hq ho u, u.block h.tb h.mt, u.block h.lb h.ml, ho.may h.tb.lt h.mt, ho.may h.lb.lt h.ml, h.lt, h.ll, h.st, h.sl, h.tl⟩
theorem RL.setL {w W : World} {b s t l : Nat} {n : Int} {v : Nat → Value} {L : List It} {tk : Bool} {lst : Int} {C T S : Nat → Int} (h : RL w W b s t l n v L tk lst C T S) (g : Nat) (hg : g < 5) (x : Int) : RL w (W.setCell ⟨l, g, none⟩ (.int .i64 x)) b s t l n v L tk lst C T (upd S g x) :=
  ⟨⟨h.rq.one.write h.ml h.ll g _, h.rq.left.setOther (by exact fun e => h.sl e.symm) _, h.rq.may, h.rq.low⟩, h.tb.setOther (by exact fun e => h.tl e.symm) _, by rw [← arr5_set S g hg x]; exact h.lb.set g _, h.mt, h.ml, h.lt, h.ll, h.st, h.sl, h.tl⟩
theorem RL.setT {w W : World} {b s t l : Nat} {n : Int} {v : Nat → Value} {L : List It} {tk : Bool} {lst : Int} {C T S : Nat → Int} (h : RL w W b s t l n v L tk lst C T S) (g : Nat) (hg : g < 5) (x : Int) : RL w (W.setCell ⟨t, g, none⟩ (.int .i64 x)) b s t l n v L tk lst C (upd T g x) S :=
  ⟨⟨h.rq.one.write h.mt h.lt g _, h.rq.left.setOther (by exact fun e => h.st e.symm) _, h.rq.may, h.rq.low⟩, by rw [← arr5_set T g hg x]; exact h.tb.set g _, h.lb.setOther (by exact h.tl) _, h.mt, h.ml, h.lt, h.ll, h.st, h.sl, h.tl⟩
theorem RL.setC {w W : World} {b s t l : Nat} {n : Int} {v : Nat → Value} {L : List It} {tk : Bool} {lst : Int} {C T S : Nat → Int} (h : RL w W b s t l n v L tk lst C T S) (g : Nat) (hg : g < 5) (x : Int) : RL w (W.setCell ⟨s, g, none⟩ (.int .i64 x)) b s t l n v L tk lst (upd C g x) T S :=
  ⟨h.rq.count g hg x, h.tb.setOther (by exact h.st) _, h.lb.setOther (by exact h.sl) _, h.mt, h.ml, h.lt, h.ll, h.st, h.sl, h.tl⟩
theorem RQ.two {w W : World} {b s : Nat} {n : Int} {v : Nat → Value} {L : List It} {tk : Bool} {lst : Int} {C : Nat → Int} (h : RQ w W b s n v L tk lst C) :
    RL w ((W.alloc (.cells #[.int .i64 0, .int .i64 0, .int .i64 0, .int .i64 0, .int .i64 0] 25)).alloc (.cells #[.int .i64 0, .int .i64 0, .int .i64 0, .int .i64 0, .int .i64 0] 25)) b s W.heap.size (W.heap.size + 1) n v L tk lst C (fun _ => 0) (fun _ => 0) := by
  have hs := h.left.lt
  have hw := h.one.below.size
  have h1 : RQ w (W.alloc (.cells #[.int .i64 0, .int .i64 0, .int .i64 0, .int .i64 0, .int .i64 0] 25)) b s n v L tk lst C := h.next (Upd.alloc _ _ _)
  have e : (W.alloc (.cells #[.int .i64 0, .int .i64 0, .int .i64 0, .int .i64 0, .int .i64 0] 25)).heap.size = W.heap.size + 1 := by simp
  have hl : BlockAt ((W.alloc (.cells #[.int .i64 0, .int .i64 0, .int .i64 0, .int .i64 0, .int .i64 0] 25)).alloc (.cells #[.int .i64 0, .int .i64 0, .int .i64 0, .int .i64 0, .int .i64 0] 25)) (W.heap.size + 1) 25 (arr5 (fun _ => 0)) := by
    rw [← e]; exact BlockAt.new _ _ (arr5 (fun _ => 0))
  exact ⟨h1.next (Upd.alloc _ _ _), (BlockAt.new W _ (arr5 (fun _ => 0))).alloc _, hl, h.one.apart (Nat.le_refl _), h1.one.apart (by rw [e]; exact Nat.le_refl _), hw, by omega, by omega, by omega, by omega⟩
set_option maxRecDepth 100000 in
set_option maxHeartbeats 4000000 in
theorem rounds_walk (l : Value) (zs : List Int) (w : World) (hl : IntsIn w l zs) :
    Calls Try.prog 3 #[l] w (TruePost w) := by
  have HL := Lib.hid hl
  clear hl
  have HN := Lib.hid (newQ_at 100 w.heap.size w (Nat.le_refl _))
  go_enter Try.func3, Try.ntmps3
  go_wp2_with fail
  refine HN.out.mono ?_
  rintro e w1 ⟨rfl, hq, hb⟩
  rw [oneRow_nil 1] at hq
  have HQ1 := Lib.hid (show QOne w w1 w.heap.size 100 0 _ 1 [] false 0 from ⟨hq, hb⟩)
  obtain ⟨b, hbe⟩ : ∃ b, w.heap.size = b := ⟨_, rfl⟩
  have HQ1' : Hid (QOne w w1 b 100 0 (fun _ => .slice none 0 0) 1 [] false 0) := Lib.hid (by rw [← hbe]; exact HQ1.out)
  rw [hbe]
  clear hq hb hbe HQ1 HN
  go_upto_block 0 with fail
  have HR0 : Hid (RQ w (w1.alloc (.cells #[.int .i64 0, .int .i64 0, .int .i64 0, .int .i64 0, .int .i64 0] 25)) b w1.heap.size 0 (fun _ => .slice none 0 0) [] false 0 (cnt [])) :=
    Lib.hid ⟨HQ1'.out.next (Upd.alloc _ _ _), BlockAt.new w1 _ (arr5 (cnt [])), HQ1'.out.apart (Nat.le_refl _), HQ1'.out.below.size⟩
  obtain ⟨W1, hW1⟩ : ∃ W, w1.alloc (.cells #[.int .i64 0, .int .i64 0, .int .i64 0, .int .i64 0, .int .i64 0] 25) = W := ⟨_, rfl⟩
  obtain ⟨s, hs⟩ : ∃ s, w1.heap.size = s := ⟨_, rfl⟩
  rw [hW1, hs] at HR0
  rw [hW1, hs]
  clear hW1 hs HQ1'
  obtain ⟨a, cap, rfl, hln, hr, hcs⟩ := HL.out
  have HCS := Lib.hid hcs
  have HR := Lib.hid hr
  have hll : (zs.length : Int) ≤ 9223372036854775807 := by omega
  clear hcs hr hln HL
  go_cut [5] (fun _ wx => ∃ (n : Nat) (v : Nat → Value) (L : List It), n ≤ 20 ∧ Hid (RQ w wx b s n v L false 0 (cnt L)) ∧ Hid (L.length = n ∧ L.Pairwise (fun x y => x.id < y.id) ∧ ∀ x ∈ L, (0 ≤ x.flow ∧ x.flow < 5) ∧ x.id < (n : Int)))
  case first =>
    go_wp2_with fail
    go_loopw [5] (fun i wr => ∃ (j : Nat) (v : Nat → Value) (L : List It), j ≤ 20 ∧ j ≤ zs.length ∧ i = .int .i64 j ∧ Hid (RQ w wr b s j v L false 0 (cnt L)) ∧ Hid (L.length = j ∧ L.Pairwise (fun x y => x.id < y.id) ∧ ∀ x ∈ L, (0 ≤ x.flow ∧ x.flow < 5) ∧ x.id < (j : Int))) (fun i _ => 20 - (intOf i).toNat)
    case atStart => exact ⟨0, _, [], by omega, by omega, rfl, HR0, Lib.hid ⟨rfl, List.Pairwise.nil, fun _ h => by cases h⟩⟩
    case round =>
      obtain ⟨j, v, L, hj20, hjn, rfl, HQ, HI⟩ := hrel
      clear HR0
      by_cases hlt : j < zs.length ∧ j < 20
      · obtain ⟨hlt1, hlt2⟩ := hlt
        obtain ⟨z, hz⟩ : ∃ z, zs[j]? = some z := ⟨zs[j], by simp [hlt1]⟩
        have hzr := HR.out z (List.mem_of_getElem? hz)
        obtain ⟨ab, off, rfl, hc0⟩ : ∃ b off, a = some ⟨b, off, none⟩ ∧ w.cell? ⟨b, off + j, none⟩ = some (.int .i64 z) := by
          rcases HCS.out with h | ⟨b, off, rfl, hc⟩
          · subst h; simp at hz
          · exact ⟨b, off, rfl, by rw [hc j hlt1, List.getD, hz]; rfl⟩
        have hcell : wr.cell? ⟨ab, off + j, none⟩ = some (.int .i64 z) := (Upd.ofBelow HQ.out.one.below).cell hc0 (by simp)
        have CI := Lib.hid (fun w => item_any z j w hzr.1 hzr.2)
        have f0 : 0 ≤ around z 100000 / 4 % 5 := by omega
        have f1 : around z 100000 / 4 % 5 < 5 := by omega
        obtain ⟨f, hf⟩ : ∃ f : Nat, around z 100000 / 4 % 5 = (f : Int) := ⟨(around z 100000 / 4 % 5).toNat, by omega⟩
        rw [hf] at CI f0 f1
        obtain ⟨pz, hpz⟩ : ∃ p, around z 100000 % 4 = p := ⟨_, rfl⟩
        rw [hpz] at CI
        have HF := Lib.hid (show f < 5 by omega)
        clear hz hc0 hzr hf hpz
        go_wp2_with fail
        refine (CI.out _).mono ?_
        rintro e w2 ⟨rfl, hb2⟩
        unfold It.val
        dsimp only
        go_wp2_with fail
        have HQ3 : Hid (RQ w (w2.alloc (.cells #[.int .i64 j, .int .i64 1, .int .i64 f] 27)) b s j v L false 0 (cnt L)) := Lib.hid ((HQ.out.next (Upd.ofBelow hb2)).next (Upd.alloc _ _ _))
        have HX3 : Hid (BlockAt (w2.alloc (.cells #[.int .i64 j, .int .i64 1, .int .i64 f] 27)) w2.heap.size 27 [.int .i64 j, .int .i64 1, .int .i64 f]) := Lib.hid (BlockAt.new w2 _ _)
        have HM3 := Lib.hid ((HQ.out.next (Upd.ofBelow hb2)).one.apart (Nat.le_refl _))
        have hne : w2.heap.size ≠ s := Nat.ne_of_gt ((HQ.out.next (Upd.ofBelow hb2)).left.lt)
        obtain ⟨w3, hw3⟩ : ∃ W, w2.alloc (.cells #[.int .i64 j, .int .i64 1, .int .i64 f] 27) = W := ⟨_, rfl⟩
        obtain ⟨X, hX⟩ : ∃ X, w2.heap.size = X := ⟨_, rfl⟩
        rw [hw3] at HQ3
        rw [hw3, hX] at HX3
        rw [hX] at HM3 hne
        rw [hw3, hX]
        clear hw3 hX hb2 HQ CI hcell
        have CP := Lib.hid (put_one w.heap.size b 100 j v 1 L false 0 (⟨j, 1, f⟩ : It) w3 HQ3.out.one.q (by omega) rfl (by omega) (by omega) (by omega) (by have := HI.out.1; omega) HQ3.out.one.below.size)
        unfold It.val at CP
        dsimp only at CP
        refine CP.out.mono ?_
        rintro e w4 ⟨rfl, ⟨v4, hq, ho⟩, hu⟩
        have HQ4 := Lib.hid (HQ3.out.step hq ho hu)
        have c2 := (hu.block HX3.out HM3.out).cell 2 _ rfl
        have d2 := HQ4.out.left.cell f _ (arr5_get _ f HF.out)
        have d3 := HQ4.out.left.free f
        have k0 := cnt_nonneg L f
        have k1 : cnt L f ≤ 20 := by have := cnt_le L f; have := HI.out.1; omega
        have HQ5 := Lib.hid (fun x => HQ4.out.count f HF.out x)
        obtain ⟨C, hC⟩ : ∃ C, cnt L f = C := ⟨_, rfl⟩
        rw [hC] at d2 k0 k1
        clear hq ho hu CP HX3 HM3 HQ3
        go_wp2_with fail
        go_region
        have HQ6 : Hid (RQ w (w4.setCell ⟨s, f, none⟩ (.int .i64 (C + 1))) b s ((j + 1 : Nat) : Int) v4 (L ++ [(⟨j, 1, f⟩ : It)]) false 0 (cnt (L ++ [(⟨j, 1, f⟩ : It)]))) := Lib.hid (by
          have e : cnt (L ++ [(⟨j, 1, f⟩ : It)]) = upd (cnt L) f (C + 1) := by
            rw [← hC]; exact cnt_app1 L (⟨j, 1, f⟩ : It) f rfl
          rw [e]
          exact HQ5.out _)
        have HI2 : Hid ((L ++ [(⟨j, 1, f⟩ : It)]).length = j + 1 ∧ (L ++ [(⟨j, 1, f⟩ : It)]).Pairwise (fun x y => x.id < y.id) ∧ ∀ x ∈ L ++ [(⟨j, 1, f⟩ : It)], (0 ≤ x.flow ∧ x.flow < 5) ∧ x.id < ((j + 1 : Nat) : Int)) := Lib.hid (by
          obtain ⟨i1, i2, i3⟩ := HI.out
          refine ⟨by simp [i1], List.pairwise_append.2 ⟨i2, by simp, fun x hx y hy => ?_⟩, fun x hx => ?_⟩
          · simp at hy; subst hy; exact (i3 x hx).2
          · rcases List.mem_append.1 hx with hx | hx
            · have := i3 x hx; omega
            · simp at hx; subst hx; dsimp only; omega)
        clear hC HQ5 HQ4 HI c2 d2 d3
        go_wp2_with fail
        have HQ7 := Lib.hid (HQ6.out.next (Upd.drew [] _))
        clear HQ6
        go_roundw
        case rel => exact ⟨j + 1, v4, _, by omega, by omega, by go_num, HQ7, HI2⟩
        case measure => simp [intOf] <;> omega
      · by_cases hl1 : j < zs.length
        · have hl2 : ¬ j < 20 := fun h => hlt ⟨hl1, h⟩
          clear hlt
          go_wp2_with fail
          go_meet
          exact ⟨j, v, L, by omega, HQ, HI⟩
        · clear hlt
          go_wp2_with fail
          go_meet
          exact ⟨j, v, L, by omega, HQ, HI⟩
  case rest =>
    obtain ⟨n, v, L, hn20, HQ, HI⟩ := hcut
    clear HR0
    have HL2 := Lib.hid HQ.out.two
    have CL := Lib.hid (len_any _ b 100 n v _ _ HL2.out.rq.one.q)
    go_wp2_with fail
    obtain ⟨W2, hW2⟩ : ∃ W, ((wc.alloc (.cells #[.int .i64 0, .int .i64 0, .int .i64 0, .int .i64 0, .int .i64 0] 25)).alloc (.cells #[.int .i64 0, .int .i64 0, .int .i64 0, .int .i64 0, .int .i64 0] 25)) = W := ⟨_, rfl⟩
    obtain ⟨tb, htb⟩ : ∃ t, wc.heap.size = t := ⟨_, rfl⟩
    obtain ⟨lb, hlb⟩ : ∃ l, tb + 1 = l := ⟨_, rfl⟩
    rw [hW2, htb, hlb] at HL2
    rw [hW2] at CL
    rw [hW2, htb, hlb]
    clear hW2 htb hlb HQ
    refine CL.out.mono ?_
    rintro e w8 ⟨rfl, rfl⟩
    have HI0 : Hid (L.length = n ∧ RR L false 0 (fun _ => 0) (fun _ => 0)) := Lib.hid ⟨HI.out.1, RR.start HI.out.2.1 (fun x hx => (HI.out.2.2 x hx).1)⟩
    clear HI CL HR HCS hll
    go_wp2_with fail
    go_loopw [10] (fun i wr => ∃ (k m : Nat) (v : Nat → Value) (L : List It) (tk : Bool) (lst : Int) (T S : Nat → Int), m + k = n ∧ i = .int .i64 k ∧ Hid (RL w wr b s tb lb m v L tk lst (cnt L) T S) ∧ Hid (L.length = m ∧ RR L tk lst T S ∧ ∀ g, g < 5 → 0 ≤ T g ∧ T g ≤ (k : Int))) (fun i _ => n - (intOf i).toNat)
    case atStart => exact ⟨0, n, v, L, false, 0, _, _, rfl, rfl, HL2, Lib.hid ⟨HI0.out.1, HI0.out.2, fun g _ => ⟨by simp, by simp⟩⟩⟩
    case round =>
      obtain ⟨k, m, v, L, tk, lst, T, S, hmk, rfl, HQ, HI⟩ := hrel
      clear HL2 HI0
      by_cases hlt : 1 ≤ m
      · obtain ⟨m, rfl⟩ : ∃ p, m = p + 1 := ⟨m - 1, by omega⟩
        have hkn : (k : Int) < n := by omega
        have CT := Lib.hid (take_oneRow w.heap.size b 100 ((m + 1 : Nat) : Int) v 1 L tk lst wr HQ.out.rq.one.q (by omega) (by have := HI.out.1; intro e; rw [e] at this; simp at this) (by omega) (by omega) (by have := HI.out.1; omega) HQ.out.rq.one.below.size)
        go_wp2_with fail
        refine CT.out.mono ?_
        rintro e w3 ⟨i, f, x, v3, hn, hx, hf, hk, rfl, hq, ho, hu⟩
        obtain ⟨f0, f1⟩ := HI.out.2.1.flows x (List.mem_of_getElem? hx)
        obtain ⟨xi, xp, xf⟩ := x
        dsimp only at hf
        subst hf
        obtain ⟨f, rfl⟩ : ∃ g : Nat, xf = (g : Int) := ⟨xf.toNat, by dsimp only at f0; omega⟩
        dsimp only at f0 f1
        have HF := Lib.hid (show f < 5 by omega)
        have HQ3 := Lib.hid (HQ.out.step hq ho hu)
        have HTEST := Lib.hid (HI.out.2.1.test hx f HF.out rfl)
        have HRR := Lib.hid (HI.out.2.1.take f HF.out hn hx rfl hk)
        have HCE := Lib.hid (cnt_erase1 hx f rfl)
        have HIX := Lib.hid (List.getElem?_eq_some_iff.1 hx).1
        clear hn hx hk hq ho hu CT HQ
        unfold It.val
        dsimp only
        go_wp2_with fail
        have HQ4 : Hid (RL w (w3.alloc (.cells #[.int .i64 xi, .int .i64 xp, .int .i64 f] 27)) b s tb lb m v3 (L.eraseIdx i) true f (cnt L) T S) := Lib.hid (by
          have := HQ3.out.next (Upd.alloc [] w3 (.cells #[.int .i64 xi, .int .i64 xp, .int .i64 f] 27))
          rwa [show ((m + 1 : Nat) : Int) - 1 = (m : Int) by omega] at this)
        have HX4 : Hid (BlockAt (w3.alloc (.cells #[.int .i64 xi, .int .i64 xp, .int .i64 f] 27)) w3.heap.size 27 [.int .i64 xi, .int .i64 xp, .int .i64 f]) := Lib.hid (BlockAt.new w3 _ _)
        have HXN := Lib.hid (show w3.heap.size ≠ s ∧ w3.heap.size ≠ tb ∧ w3.heap.size ≠ lb from ⟨Nat.ne_of_gt HQ3.out.rq.left.lt, Nat.ne_of_gt HQ3.out.tb.lt, Nat.ne_of_gt HQ3.out.lb.lt⟩)
        obtain ⟨W4, hW4⟩ : ∃ W, w3.alloc (.cells #[.int .i64 xi, .int .i64 xp, .int .i64 f] 27) = W := ⟨_, rfl⟩
        obtain ⟨X, hX⟩ : ∃ X, w3.heap.size = X := ⟨_, rfl⟩
        rw [hW4] at HQ4
        rw [hW4, hX] at HX4
        rw [hX] at HXN
        rw [hW4, hX]
        clear hW4 hX HQ3
        go_cut [85] (fun s85 wx => s85 = .bool false ∧ Hid (RL w wx b s tb lb m v3 (L.eraseIdx i) true f (cnt L) T S) ∧ Hid (BlockAt wx X 27 [.int .i64 xi, .int .i64 xp, .int .i64 f]))
        case first =>
          have c0 := HX4.out.cell 0 _ rfl
          have c1 := HQ4.out.tb.cell f _ (arr5_get T f HF.out)
          have c2 := HQ4.out.lb.cell f _ (arr5_get S f HF.out)
          obtain ⟨tf, htf⟩ : ∃ t, T f = t := ⟨_, rfl⟩
          obtain ⟨sf, hsf⟩ : ∃ t, S f = t := ⟨_, rfl⟩
          have ht := HTEST.out
          rw [htf, hsf] at ht
          rw [htf] at c1
          rw [hsf] at c2
          clear htf hsf HTEST HRR HCE
          by_cases h0 : 0 < tf
          · have h1 : ¬ xi ≤ sf := by have := ht h0; omega
            clear ht
            go_region
            go_wp2_with fail
            go_meet
            exact ⟨rfl, Lib.hid (HQ4.out.next (Upd.drew _ _)), Lib.hid HX4.out.drew⟩
          · clear ht
            go_region
            go_wp2_with fail
            go_meet
            exact ⟨rfl, Lib.hid (HQ4.out.next (Upd.drew _ _)), Lib.hid HX4.out.drew⟩
        case rest =>
          obtain ⟨rfl, HQ5, HX5⟩ := hcut
          clear HQ4 HX4 HTEST
          have c0 := HX5.out.cell 0 _ rfl
          have l0 := HQ5.out.lb.free f
          have l1 := HQ5.out.lb.cell f _ (arr5_get S f HF.out)
          have t0 := HQ5.out.tb.cell f _ (arr5_get T f HF.out)
          have t1 := HQ5.out.tb.free f
          have s0 := HQ5.out.rq.left.cell f _ (arr5_get (cnt L) f HF.out)
          have s1 := HQ5.out.rq.left.free f
          have n1 : lb ≠ tb := fun e => HQ5.out.tl e.symm
          have n2 : lb ≠ s := fun e => HQ5.out.sl e.symm
          have n3 : tb ≠ s := fun e => HQ5.out.st e.symm
          obtain ⟨b0, b1⟩ := HI.out.2.2 f HF.out
          have b2 := cnt_nonneg L f
          have b3 : cnt L f ≤ 20 := by have := cnt_le L f; have := HI.out.1; omega
          have HS : Hid (∀ A B D : Int, RL w (((wc.setCell ⟨lb, f, none⟩ (.int .i64 A)).setCell ⟨tb, f, none⟩ (.int .i64 B)).setCell ⟨s, f, none⟩ (.int .i64 D)) b s tb lb m v3 (L.eraseIdx i) true f (upd (cnt L) f D) (upd T f B) (upd S f A)) := Lib.hid (fun A B D => ((HQ5.out.setL f HF.out A).setT f HF.out B).setC f HF.out D)
          obtain ⟨tf, htf⟩ : ∃ t, T f = t := ⟨_, rfl⟩
          obtain ⟨cf, hcf⟩ : ∃ t, cnt L f = t := ⟨_, rfl⟩
          rw [htf] at t0 b0 b1
          rw [hcf] at s0 b2 b3
          have HTF := Lib.hid htf
          have HCF := Lib.hid hcf
          clear htf hcf HQ5 HX5
          go_wp2_with fail
          obtain ⟨L', hL⟩ : ∃ l, L.eraseIdx i = l := ⟨_, rfl⟩
          obtain ⟨T', hT⟩ : ∃ t, upd T f (T f + 1) = t := ⟨_, rfl⟩
          obtain ⟨S', hS⟩ : ∃ t, upd S f xi = t := ⟨_, rfl⟩
          obtain ⟨W5, hW5⟩ : ∃ W, (((wc.setCell ⟨lb, f, none⟩ (.int .i64 xi)).setCell ⟨tb, f, none⟩ (.int .i64 (tf + 1))).setCell ⟨s, f, none⟩ (.int .i64 (cf - 1))) = W := ⟨_, rfl⟩
          have HR5 : Hid (RL w W5 b s tb lb m v3 L' true f (cnt L') T' S') := Lib.hid (by
            have h1 := HS.out xi (tf + 1) (cf - 1)
            have h2 := HCE.out
            rw [HCF.out, hL] at h2
            rw [hW5, hL, ← h2, ← HTF.out, hT, hS] at h1
            exact h1)
          have HI5 : Hid (L'.length = m ∧ RR L' true f T' S' ∧ ∀ g, g < 5 → 0 ≤ T' g ∧ T' g ≤ ((k + 1 : Nat) : Int)) := Lib.hid (by
            have h1 := HRR.out.1
            rw [hL, hT, hS] at h1
            refine ⟨?_, h1, fun g hg => ?_⟩
            · rw [← hL, List.length_eraseIdx]
              have := HI.out.1
              split
              · omega
              · rename_i hh; exact absurd HIX.out hh
            · have := HI.out.2.2 g hg
              have h3 := HI.out.2.2 f HF.out
              rw [← hT]
              by_cases e : g = f
              · subst e; rw [upd_same]; omega
              · rw [upd_other _ _ e]; omega)
          have HCK : Hid (∀ q, q < 5 → 0 < cnt L' q → T' f ≤ T' q + 1) := Lib.hid (by
            have h1 := HRR.out.2
            rw [hL, hT] at h1
            intro q hq hc
            have := h1 q hq hc
            rw [← hT, upd_same, hT]
            exact this)
          rw [hW5]
          clear hW5 hL hT hS HS HCE HRR HTF HCF HI c0 l0 l1 t0 t1 s0 s1 n1 n2 n3 b0 b1 b2 b3 HXN HIX
          go_loopw [14] (fun q wr => ∃ q' : Nat, q' ≤ 5 ∧ q = .int .i64 q' ∧ Hid (RL w wr b s tb lb m v3 L' true f (cnt L') T' S')) (fun q _ => 5 - (intOf q).toNat)
          case atStart => exact ⟨0, by omega, rfl, HR5⟩
          case round =>
            obtain ⟨q, hq5, rfl, HR6⟩ := hrel
            clear HR5
            by_cases hq : q < 5
            · have q0 : (0 : Int) ≤ q := by omega
              have q1 : (q : Int) < 5 := by omega
              have HQ5 := Lib.hid hq
              clear hq
              go_wp2_with fail
              go_cut [119] (fun s119 wx => s119 = .bool false ∧ Hid (RL w wx b s tb lb m v3 L' true f (cnt L') T' S'))
              case first =>
                have c0 := HR6.out.rq.left.cell q _ (arr5_get (cnt L') q HQ5.out)
                have c1 := HR6.out.tb.cell q _ (arr5_get T' q HQ5.out)
                have c2 := HR6.out.tb.cell f _ (arr5_get T' f HF.out)
                have hck := HCK.out q HQ5.out
                obtain ⟨_, b1⟩ := HI5.out.2.2 q HQ5.out
                obtain ⟨b2, _⟩ := HI5.out.2.2 q HQ5.out
                obtain ⟨cq, hcq⟩ : ∃ t, cnt L' q = t := ⟨_, rfl⟩
                obtain ⟨tq, htq⟩ : ∃ t, T' q = t := ⟨_, rfl⟩
                obtain ⟨tf, htf⟩ : ∃ t, T' f = t := ⟨_, rfl⟩
                rw [hcq, htq, htf] at hck
                rw [hcq] at c0
                rw [htq] at c1 b1 b2
                rw [htf] at c2
                clear hcq htq htf HCK HI5
                by_cases h0 : 0 < cq
                · have h1 := hck h0
                  have h2 : ¬ tq + 1 < tf := by omega
                  clear hck h1
                  go_region
                  go_wp2_with fail
                  go_meet
                  exact ⟨rfl, Lib.hid (HR6.out.next (Upd.drew _ _))⟩
                · clear hck
                  go_region
                  go_wp2_with fail
                  go_meet
                  exact ⟨rfl, Lib.hid (HR6.out.next (Upd.drew _ _))⟩
              case rest =>
                obtain ⟨rfl, HR7⟩ := hcut
                clear HR6
                go_wp2_with fail
                go_roundw
                case rel => exact ⟨q + 1, by have := HQ5.out; omega, by go_num, HR7⟩
                case measure => have := HQ5.out; simp [intOf] <;> omega
            · obtain rfl : q = 5 := by omega
              clear hq hq5
              go_wp2_with fail
              go_roundw
              case rel => exact ⟨k + 1, m, v3, L', true, f, T', S', by omega, by go_num, HR6, HI5⟩
              case measure => simp [intOf] <;> omega
      · obtain rfl : m = 0 := by omega
        obtain rfl : L = [] := List.eq_nil_of_length_eq_zero HI.out.1
        have hkn : k = n := by omega
        subst hkn
        clear hlt hmk
        have CT := Lib.hid (take_oneNil w.heap.size b 100 v 1 tk lst wr HQ.out.rq.one.q (by omega) HQ.out.rq.one.below.size)
        go_wp2_with fail
        refine CT.out.mono ?_
        rintro e w3 ⟨rfl, hu⟩
        have hone := HQ.out.rq.one
        have HB := Lib.hid (hone.below.trans (hu.below hone.below.size hone.q.lo (fun q k hq hk => ((hone.q.own q hq).lt k hk).1)))
        clear hone hu CT HQ HI
        unfold It.val
        dsimp only
        go_wp2_with fail
        refine (lives_any _).mono ?_
        rintro e w9 ⟨rfl, hb9⟩
        have HB9 := Lib.hid hb9
        clear hb9
        go_wp2_with fail
        go_ret
        exact ⟨rfl, by first | exact HB.out.trans (HB9.out.mono HB.out.size) | exact (HB.out.alloc HB.out.size _).trans (HB9.out.mono (by have := HB.out.size; simp; omega))⟩
end Go.Proofs.Ytapoikegoknlcaa
