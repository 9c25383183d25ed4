/- Layer 1: the walks of Pairs, of the reference's Far. -/
import Derived.Test.YtphdpdmkoogkkaaFixD
namespace Go.Proofs.Ytphdpdmkoogkkaa
open Go.RowKit
def pairN (n : Int) : Int × Int := (n / 40 % (1 + n % 40 + 1), 1 + n % 40)
def pairOf (z : Int) : Int × Int := pairN (around z 1000000)
def pairsOf (zs : List Int) : List (Int × Int) := (zs.take 20).map pairOf
def cellsP (ps : List (Int × Int)) : List Value := ps.flatMap fun p => [.int .i64 p.1, .int .i64 p.2]
theorem pairN_ok {n : Int} (h0 : 0 ≤ n) : PairOk (pairN n) := by
  unfold pairN
  have a0 : 0 ≤ n % 40 := by omega
  have a1 : n % 40 < 40 := by omega
  have b0 := Int.emod_nonneg (n / 40) (show 1 + n % 40 + 1 ≠ 0 by omega)
  have b1 := Int.emod_lt_of_pos (n / 40) (show 0 < 1 + n % 40 + 1 by omega)
  exact ⟨b0, by dsimp only; omega, by dsimp only; omega, by dsimp only; omega⟩
theorem pairOf_ok (z : Int) : PairOk (pairOf z) := pairN_ok (around_nonneg _ _ (by omega))
theorem pairsOf_ok (zs : List Int) : ∀ p ∈ pairsOf zs, PairOk p := fun p hp => by
  obtain ⟨z, _, rfl⟩ := List.mem_map.1 hp
  exact pairOf_ok z
theorem cellsP_length (ps : List (Int × Int)) : (cellsP ps).length = ps.length * 2 := by
  induction ps with
  | nil => rfl
  | cons a l ih => simp only [cellsP, List.flatMap_cons, List.length_append, List.length_cons, List.length_nil] at *; omega
theorem cellsP_get (l : List (Int × Int)) : ∀ (k : Nat) (p : Int × Int), l[k]? = some p → (cellsP l)[k * 2]? = some (.int .i64 p.1) ∧ (cellsP l)[k * 2 + 1]? = some (.int .i64 p.2) := by
  induction l with
  | nil => intro k a h; simp at h
  | cons x l ih =>
    intro k p h
    have e : cellsP (x :: l) = .int .i64 x.1 :: .int .i64 x.2 :: cellsP l := by simp [cellsP]
    rw [e]
    match k, h with
    | 0, h => simp at h; subst h; simp
    | k + 1, h =>
      have := ih k p (by simpa using h)
      rw [show (k + 1) * 2 = k * 2 + 1 + 1 by omega]
      simpa using this
theorem cellsP_append (l m : List (Int × Int)) : cellsP (l ++ m) = cellsP l ++ cellsP m := by simp [cellsP]
theorem take_snoc_of {α : Type} {l : List α} {k : Nat} {z : α} (h : l[k]? = some z) : l.take (k + 1) = l.take k ++ [z] := by
  rw [List.take_add_one, h]; rfl
theorem Try.infoPair : (Try.prog.info? 30).map (fun i => (i.zero, i.size, i.bytes)) = some (some (.agg #[.int .i64 0, .int .i64 0]), 2, 16) := by kernel_rfl
/-- Pairs of the call's own. -/
def PairsOwn (base : Nat) (w : World) (u : Value) (l : List (Int × Int)) : Prop := w.ownsRow base 30 2 u l.length (cellsP l)
theorem PairsOwn.isIn {base : Nat} {w : World} {u : Value} {l : List (Int × Int)} (h : PairsOwn base w u l) (hl : l.length ≤ 20) (hok : ∀ p ∈ l, PairOk p) : PairsIn w u l := by
  unfold PairsOwn at h
  have hc := fun g hg => h.cells (g := g) hg
  rcases h.2 with ⟨hv, hn⟩ | ⟨g, cap, cur, rfl, _, hgg, hlc, hcm, _⟩
  · have : l = [] := List.eq_nil_of_length_eq_zero hn
    subst this
    exact ⟨none, 0, hv, by simp, by simp, .inl rfl⟩
  · refine ⟨_, cap, rfl, hl, hok, .inr ⟨g, 0, rfl, fun j p hp => ?_⟩⟩
    obtain ⟨e1, e2⟩ := cellsP_get l j p hp
    have c1 := hc g rfl (j * 2) _ e1
    have c2 := hc g rfl (j * 2 + 1) _ e2
    simp only [Addr.add_lit, Nat.zero_add] at c1 c2
    exact ⟨by rw [Nat.zero_add]; exact c1, by rw [Nat.zero_add]; exact c2⟩
def PairsPost (w : World) (zs : List Int) (e : Ending) (w' : World) : Prop := ∃ u, e = .returned u ∧ PairsIn w' u (pairsOf zs) ∧ Below w.heap.size w w'
theorem pairs_end {w w' : World} {zs : List Int} {u : Value} {k : Nat} (hk : k ≤ 20) (hkl : k = min zs.length 20) (hown : PairsOwn w.heap.size w' u ((zs.take k).map pairOf)) (hb : Below w.heap.size w w') : PairsPost w zs (.returned u) w' := by
  have e : zs.take k = zs.take 20 := by
    subst hkl
    rw [List.take_eq_take_iff]; omega
  rw [e] at hown
  exact ⟨u, rfl, hown.isIn (by simp; omega) (pairsOf_ok zs), hb⟩
theorem pairs_any (v : Value) (zs : List Int) (w : World) (hv : IntsIn w v zs) :
    Calls Try.prog 16 #[v] w (PairsPost w zs) := by
  obtain ⟨a, cap, rfl, hl, hr, hcs⟩ := hv
  have HCS := Lib.hid hcs
  have HR := Lib.hid hr
  have hll : (zs.length : Int) ≤ 9223372036854775807 := by omega
  have HST : Hid (PairsOwn w.heap.size w (.slice none 0 0) ((zs.take 0).map pairOf)) := Lib.hid (World.ownsRow_nil _ _ _ _)
  clear hcs hr hl
  go_enter Try.func16, Try.ntmps16
  go_wp2_with fail
  go_loopw [3, 4] (fun u i wr => ∃ k : Nat, k ≤ zs.length ∧ k ≤ 20 ∧ i = .int .i64 k ∧ Hid (PairsOwn w.heap.size wr u ((zs.take k).map pairOf)) ∧ Hid (Below w.heap.size w wr)) (fun _ i _ => 20 - (intOf i).toNat)
  case atStart => exact ⟨0, by omega, by omega, rfl, HST, Lib.hid (Below.refl _ _)⟩
  case round =>
    obtain ⟨k, hk, hk20, rfl, HOWN, HB⟩ := hrel
    clear HST
    by_cases hlt : k < zs.length ∧ k < 20
    · obtain ⟨hlt1, hlt2⟩ := hlt
      obtain ⟨z, hz⟩ : ∃ z, zs[k]? = some z := ⟨zs[k], by simp [hlt1]⟩
      have hzr := HR.out z (List.mem_of_getElem? hz)
      obtain ⟨b, off, rfl, hc0⟩ : ∃ b off, a = some ⟨b, off, none⟩ ∧ w.cell? ⟨b, off + k, none⟩ = some (.int .i64 z) := by
        rcases HCS.out with h | ⟨b, off, rfl, hc⟩
        · subst h; simp at hz
        · exact ⟨b, off, rfl, by rw [hc k hlt1, List.getD, hz]; rfl⟩
      have hcell : wr.cell? ⟨b, off + k, none⟩ = some (.int .i64 z) := (Upd.ofBelow HB.out).cell hc0 (by simp)
      have htl : ((zs.take k).map pairOf).length = k := by simp; omega
      have hown := HOWN.out
      unfold PairsOwn at hown
      rw [htl] at hown
      have HOWN2 := Lib.hid hown
      have hn0 := around_nonneg z 1000000 (by omega)
      have hn1 := around_lt z 1000000 (by omega)
      have hpz : pairOf z = pairN (around z 1000000) := rfl
      obtain ⟨n, hn⟩ : ∃ n, around z 1000000 = n := ⟨_, rfl⟩
      rw [hn] at hn0 hn1 hpz
      have HN := Lib.hid hn
      have HPZ := Lib.hid hpz
      have HZ := Lib.hid hz
      have m0 : 0 ≤ n % 40 := by omega
      have m1 : n % 40 < 40 := by omega
      clear hn hz hc0 hown htl hpz
      go_wp2_with fail
      refine (around_any z 1000000 _ hzr.1 hzr.2 (by omega)).mono ?_
      rintro e w' ⟨rfl, rfl⟩
      rw [show around z 1000000 = n from HN.out]
      go_wp2_with (at_builtin; refine wpList_append_one wr rfl (.tmp 25) (.tmp 33) 28 rfl w.heap.size 30 2 16 Try.infoPair (by kernel_rfl) rfl (by decide) u3 k (cellsP ((zs.take k).map pairOf)) rfl HOWN2.out _ rfl rfl rfl (by unfold maxLen; omega) (by omega) HB.out.size ?_)
      intro v' w1 hown1 hup
      have HB1 := Lib.hid (below_own HB.out HOWN2.out HB.out.size hup)
      have HO1 : Hid (PairsOwn w.heap.size w1 v' ((zs.take (k + 1)).map pairOf)) := Lib.hid (by
        unfold PairsOwn
        rw [take_snoc_of HZ.out, List.map_append, cellsP_append]
        have e : (List.map pairOf (List.take k zs) ++ List.map pairOf [z]).length = k + 1 := by simp; omega
        rw [e]
        have e2 : cellsP (List.map pairOf [z]) = [.int .i64 (n / 40 % (1 + n % 40 + 1)), .int .i64 (1 + n % 40)] := by
          simp only [List.map_cons, List.map_nil, HPZ.out, pairN, cellsP, List.flatMap_cons, List.flatMap_nil, List.append_nil]
        rw [e2]
        simpa only [List.map_take] using hown1)
      clear hown1 hup HOWN HOWN2 hcell
      go_wp2_with fail
      go_roundw
      case rel => exact ⟨k + 1, by omega, by omega, by go_num, HO1, HB1⟩
      case measure => simp [intOf] <;> omega
    · by_cases hl1 : k < zs.length
      · have hl2 : ¬ k < 20 := fun h => hlt ⟨hl1, h⟩
        clear hlt
        go_wp2_with fail
        go_ret
        exact pairs_end hk20 (by omega) HOWN.out HB.out
      · clear hlt
        go_wp2_with fail
        go_ret
        exact pairs_end hk20 (by omega) HOWN.out HB.out
end Go.Proofs.Ytphdpdmkoogkkaa
