/- Layer 22: the reference's ahead, many and without. -/
import Derived.Test.YtapoikegoknlcaaPlayPlain
namespace Go.Proofs.Ytapoikegoknlcaa
open Go.RowKit
theorem ahead_any (a b last : Int) (w : World) : Calls Try.prog 32 #[.int .i64 a, .int .i64 b, .int .i64 last] w fun e w' => e = .returned (.bool (aheadB a b last)) ∧ w = w' := by
  by_cases h1 : last ≤ a <;> by_cases h2 : last ≤ b <;> by_cases h3 : a < b
  all_goals
    have hb : aheadB a b last = (if (decide (last ≤ a) != decide (last ≤ b)) = true then decide (last ≤ a) else decide (a < b)) := rfl
    simp only [h1, h2, h3, decide_true, decide_false, bne_self_eq_false, Bool.false_eq_true, if_false, if_true, Bool.true_bne, Bool.false_bne, Bool.not_true, Bool.not_false] at hb
    rw [hb]
    clear hb
    go_enter Try.func32, Try.ntmps32
    go_wp2
    go_ret
    exact ⟨rfl, rfl⟩
theorem many_next {L : List It} {j : Nat} {x : It} (h : L[j]? = some x) (p f : Int) : many (L.take (j + 1)) p f = many (L.take j) p f + if x.prio = p ∧ x.flow = f then 1 else 0 := by
  rw [take_next h]
  unfold many
  rw [List.filter_append, List.length_append]
  by_cases e : x.prio = p ∧ x.flow = f
  · rw [if_pos e]; simp [e.1, e.2]
  · rw [if_neg e]
    have : (decide (x.prio = p) && decide (x.flow = f)) = false := by
      rw [Bool.eq_false_iff]; simp; exact fun h1 h2 => e ⟨h1, h2⟩
    simp [this]
set_option maxHeartbeats 1000000 in
theorem many_any (v : Value) (L : List It) (p f : Int) (w : World) (h : RowRd w v L) (hl : (L.length : Int) ≤ 1000) :
    Calls Try.prog 35 #[v, .int .i64 p, .int .i64 f] w fun e w' => e = .returned (.int .i64 (many L p f)) ∧ w = w' := by
  have HR := Lib.hid h
  obtain ⟨ao, cap, rfl⟩ := h.val
  obtain ⟨n, hn⟩ : ∃ n, L.length = n := ⟨_, rfl⟩
  have HN := Lib.hid hn
  rw [hn] at HR hl ⊢
  have HM0 : Hid (many L p f = many (L.take n) p f) := Lib.hid (by rw [← hn, List.take_length])
  have HC0 : Hid ((0 : Int) = many (L.take 0) p f) := Lib.hid (by simp [many])
  obtain ⟨M, hM⟩ : ∃ M, many L p f = M := ⟨_, rfl⟩
  rw [hM] at HM0 ⊢
  clear h hn hM
  go_enter Try.func35, Try.ntmps35
  go_wp2_with fail
  go_loop [7, 8] (fun c i => ∃ (q : Nat) (C : Int), q ≤ n ∧ i = .int .i64 q ∧ c = .int .i64 C ∧ 0 ≤ C ∧ C ≤ q ∧ Hid (C = many (L.take q) p f)) (fun _ i => n - (intOf i).toNat)
  case atStart => exact ⟨0, 0, by omega, rfl, rfl, by omega, by omega, HC0⟩
  case round =>
    obtain ⟨q, C, hq, rfl, rfl, c0, c1, HC⟩ := hrel
    clear HC0
    by_cases hqn : q < n
    · obtain ⟨x, hx⟩ : ∃ x, L[q]? = some x := ⟨L[q]'(by rw [HN.out]; omega), by simp⟩
      obtain ⟨g, d, hv, x0, x1, x2⟩ := HR.out.get hx
      obtain rfl : ao = some ⟨g, 0, none⟩ := by cases hv; rfl
      have hm := many_next hx p f
      rw [← HC.out] at hm
      have q0 : (0 : Int) ≤ q := by omega
      have q1 : (q : Int) < n := by omega
      obtain ⟨xi, xp, xf⟩ := x
      dsimp only at x0 x1 x2 hm
      clear hv hx hqn
      by_cases h1 : xp = p
      · by_cases h2 : xf = f
        · rw [if_pos ⟨h1, h2⟩] at hm
          have HC2 := Lib.hid hm.symm
          clear hm
          go_wp2_with fail
          go_round
          case rel => exact ⟨q + 1, C + 1, by omega, by go_num, rfl, by omega, by omega, HC2⟩
          case measure => simp [intOf] <;> omega
        · rw [if_neg (fun hh => h2 hh.2)] at hm
          have HC2 := Lib.hid (show C = many (L.take (q + 1)) p f by rw [hm]; omega)
          clear hm
          go_wp2_with fail
          go_round
          case rel => exact ⟨q + 1, C, by omega, by go_num, rfl, by omega, by omega, HC2⟩
          case measure => simp [intOf] <;> omega
      · rw [if_neg (fun hh => h1 hh.1)] at hm
        have HC2 := Lib.hid (show C = many (L.take (q + 1)) p f by rw [hm]; omega)
        clear hm
        go_wp2_with fail
        go_round
        case rel => exact ⟨q + 1, C, by omega, by go_num, rfl, by omega, by omega, HC2⟩
        case measure => simp [intOf] <;> omega
    · obtain rfl : q = n := by omega
      clear hqn hq
      go_wp2_with fail
      go_ret
      exact ⟨by rw [HM0.out, ← HC.out]; rfl, rfl⟩
theorem rowIn_take {w : World} {g b cap : Nat} {L : List It} (hi : ItemsIn w g L) (hb : b ≤ L.length) : RowIn w 3 (some ⟨g, 0, none⟩) b cap (cellsI (L.take b)) := by
  refine ⟨by rw [cellsI_length, List.length_take]; omega, fun h => (by cases h), fun ad had j u hu => ?_⟩
  cases had
  rw [Addr.add_lit]
  have hj := (List.getElem?_eq_some_iff.1 hu).1
  rw [cellsI_length, List.length_take] at hj
  obtain ⟨x, hx⟩ : ∃ x, L[j / 3]? = some x := ⟨L[j / 3]'(by omega), List.getElem?_eq_getElem _⟩
  obtain ⟨c0, c1, c2⟩ := hi _ x hx
  obtain ⟨e0, e1, e2⟩ := cellsI_get (L.take b) (j / 3) x (by rw [List.getElem?_take_of_lt (by omega)]; exact hx)
  rcases (show j = j / 3 * 3 ∨ j = j / 3 * 3 + 1 ∨ j = j / 3 * 3 + 2 by omega) with h | h | h
  · rw [h] at hu ⊢; rw [e0] at hu; cases hu; simpa using c0
  · rw [h] at hu ⊢; rw [e1] at hu; cases hu; simpa using c1
  · rw [h] at hu ⊢; rw [e2] at hu; cases hu; simpa using c2
theorem rowIn_drop {w : World} {g b cap : Nat} {L : List It} (hi : ItemsIn w g L) {ad : Addr} (had : ad = ⟨g, b * 3, none⟩ ∨ L.length ≤ b) (m : Nat) (hm : m = L.length - b) : RowIn w 3 (some ad) m cap (cellsI (L.drop b)) := by
  subst hm
  refine ⟨by rw [cellsI_length, List.length_drop], fun h => (by cases h), fun ad' had' j u hu => ?_⟩
  cases had'
  have hj := (List.getElem?_eq_some_iff.1 hu).1
  rw [cellsI_length, List.length_drop] at hj
  rcases had with rfl | had
  · rw [Addr.add_lit]
    obtain ⟨x, hx⟩ : ∃ x, L[b + j / 3]? = some x := ⟨L[b + j / 3]'(by omega), List.getElem?_eq_getElem _⟩
    obtain ⟨c0, c1, c2⟩ := hi _ x hx
    obtain ⟨e0, e1, e2⟩ := cellsI_get (L.drop b) (j / 3) x (by rw [List.getElem?_drop]; exact hx)
    rcases (show j = j / 3 * 3 ∨ j = j / 3 * 3 + 1 ∨ j = j / 3 * 3 + 2 by omega) with h | h | h
    · rw [h] at hu; rw [e0] at hu; cases hu; rw [← c0]; congr 2; omega
    · rw [h] at hu; rw [e1] at hu; cases hu; rw [← c1]; congr 2; omega
    · rw [h] at hu; rw [e2] at hu; cases hu; rw [← c2]; congr 2; omega
  · omega
def WithoutPost (L : List It) (b : Nat) (w : World) (e : Ending) (w' : World) : Prop := ∃ v, e = .returned v ∧ w'.ownsRow w.heap.size 27 3 v (L.eraseIdx b).length (cellsI (L.eraseIdx b)) ∧ Below w.heap.size w w'
set_option maxHeartbeats 1000000 in
theorem without_any (v : Value) (L : List It) (b : Nat) (w : World) (h : RowRd w v L) (hb : b < L.length) (hl : (L.length : Int) ≤ 1000) :
    Calls Try.prog 33 #[v, .int .i64 b] w (WithoutPost L b w) := by
  obtain ⟨ao, cap, rfl, h⟩ := h
  obtain ⟨g, rfl, hi, hc1, hc2⟩ : ∃ g, ao = some ⟨g, 0, none⟩ ∧ ItemsIn w g L ∧ L.length ≤ cap ∧ cap ≤ maxLen := by
    rcases h with rfl | h
    · simp at hb
    · exact h
  have he : L.eraseIdx b = L.take b ++ L.drop (b + 1) := List.eraseIdx_eq_take_drop_succ _ _
  have hel : (L.eraseIdx b).length = b + (L.length - (b + 1)) := by rw [he]; simp; omega
  unfold WithoutPost
  rw [hel]
  have HV1 := Lib.hid (rowIn_take (cap := cap) hi (show b ≤ L.length by omega))
  have HI := Lib.hid hi
  have HE := Lib.hid he
  obtain ⟨n, hn⟩ : ∃ n, L.length = n := ⟨_, rfl⟩
  have HN := Lib.hid hn
  rw [hn] at hb hc1 hl ⊢
  have HB := Lib.hid hb
  have b0 : (0 : Int) ≤ b := by omega
  have b1 : (b : Int) ≤ cap := by omega
  have b2 : (b : Int) ≤ n := by omega
  have b3 : (b : Int) + 1 ≤ n := by omega
  have b4 : (n : Int) ≤ cap := by omega
  have b5 : ((b : Int) + 1).toNat = b + 1 := by omega
  have b6 : (0 : Int) ≤ (b : Int) + 1 := by omega
  have b7 : b + 1 ≤ n := by omega
  have hc3 : cap ≤ 9223372036854775807 := by unfold maxLen at hc2; exact hc2
  have HO0 : Hid (w.ownsRow w.heap.size 27 3 (.slice none 0 0) 0 []) := Lib.hid (World.ownsRow_nil _ _ _ _)
  obtain ⟨A, hA, hA2⟩ : ∃ A : Addr, (if cap = b + 1 then some (⟨g, 0, none⟩ : Addr) else some ⟨g, (b + 1) * 3, none⟩) = some A ∧ (A = ⟨g, (b + 1) * 3, none⟩ ∨ L.length ≤ b + 1) := by
    by_cases h : cap = b + 1
    · exact ⟨⟨g, 0, none⟩, by simp [h], .inr (by omega)⟩
    · exact ⟨⟨g, (b + 1) * 3, none⟩, by simp [h], .inl rfl⟩
  have HA2 := Lib.hid hA2
  clear h he hel hi hn hb hA2
  go_enter Try.func33, Try.ntmps33
  go_wp2_with (at_builtin; refine wpList_append_view w rfl (.tmp 6) (.tmp 9) 37 rfl w.heap.size 27 3 24 Try.infoItem (by kernel_rfl) rfl (by decide) (.slice none 0 0) 0 [] rfl HO0.out (some ⟨g, 0, none⟩) b cap _ rfl HV1.out (cellsI_one _) (by unfold maxLen; omega) (by omega) (Nat.le_refl _) ?_)
  intro v1 w1 hown1 hu1
  have hu1' : Upd [] w w1 := hu1.mono (by simp [Value.ownBlock])
  have HO1 := Lib.hid hown1
  have HU1 := Lib.hid hu1'
  have hi1 : ItemsIn w1 g L := HI.out.keep hu1' (by simp)
  have HI1 := Lib.hid hi1
  have hsz := hu1'.size
  clear hown1 hu1 hu1' hi1 HO0 HV1
  have HV2 := Lib.hid (rowIn_drop (cap := cap - (b + 1)) HI1.out HA2.out (n - (b + 1)) (by rw [HN.out]))
  go_wp2_with (at_builtin; refine wpList_append_view w1 rfl (.tmp 11) (.tmp 15) 37 rfl w.heap.size 27 3 24 Try.infoItem (by kernel_rfl) rfl (by decide) v1 b _ rfl HO1.out (some A) (n - (b + 1)) (cap - (b + 1)) _ (by simp [Act.eval, hA]) HV2.out (cellsI_one _) (by unfold maxLen; omega) (by omega) hsz ?_)
  intro v2 w2 hown2 hu2
  rw [← cellsI_append, ← HE.out] at hown2
  have hb2 : Below w.heap.size w w2 := (HU1.out.below (Nat.le_refl _) (by simp)).trans (hu2.below hsz (fun k hk => (HO1.out.lt k (by simpa using hk)).1))
  go_wp2_with fail
  go_ret
  exact ⟨v2, rfl, hown2, hb2⟩
end Go.Proofs.Ytapoikegoknlcaa
