/- Proved: the Go law FixOrder returns true for every input and leaves its arguments as they were. (The law says: Cmp is a total order, that Down keeps.)
   Conditions: No condition: it speaks of every input of its parameter types that can be read as data (the form's own reach). The frame follows the kit's proof-skeleton. -/
import Derived.Test.YtphdpdmkoogkkaaRows
import Derived.Test.YtphdpdmkoogkkaaFixOrder
import Derived.Test.YtphdpdmkoogkkaaSix
import Derived.Lib.SmallJoins
import Derived.WalkKit
import Derived.ProofKit
import Derived.OpenShut
import Derived.ShutString
import Derived.ChangeOld
import Derived.Below
import Derived.Carry
namespace Go.Proofs.Ytphdpdmkoogkkaa.fixOrder
open Go.ChangeShapes Go.WideShapes Go.ChangeAt Go.RowKit

theorem own : ownKnob Try.prog.godebug = none := by kernel_rfl
theorem laidOut : laidOutB Try.prog = true := by kernel_rfl

set_option maxRecDepth 100000 in
theorem lifted (os : Os) (started : os.Started) (H : Type) (enc : TypeId × Value → H) :
    ReturnsInHanded {} Try.checked os 11 .any (Rows.fixOrderSpec.pre6 enc Try.prog Try.f11 Rows.fixOrderRow.domain false) (Rows.fixOrderSpec.post enc Try.prog Try.f11 false true false false) := by
  refine returnsInHanded_of_change (C := Try.checked) own started (by kernel_rfl) Try.func11
    (ChangeSpec.witness6 (enc := enc) (C := Try.checked) false ⟨#[], #[.agg #[.int .i64 0, .int .i64 0, .int .i64 0, .int .i64 0, .int .i64 0, .int .i64 0], .int .i64 0], []⟩ 8 (by kernel_rfl) (by kernel_rfl) (by kernel_rfl) (by kernel_rfl)) ?_
  intro W base args ds gs before hval0 hW hcnd _
  have hval : ∀ (j : Nat) t v, Try.f11.params[j]? = some t → args[j]? = some v → Value.okWide Try.prog W .any base t v := hval0
  have hW' := hW
  obtain ⟨p, q, hA0, hV, rfl, hfz, hnd⟩ := hW
  have hA : DataW.TrodAll enc Try.prog W 0 (fun _ => true) true Try.f11.params.toList args.toList ds p := hA0
  rw [Try.params11] at hA hval
  obtain ⟨v0, vs0, d0, ds0, p0, q0, hargs, rfl, rfl, h0, r0⟩ := trodAll_cons hA
  obtain ⟨v1, vs1, d1, ds1, p1, q1, rfl, rfl, rfl, h1, r1⟩ := trodAll_cons r0
  obtain ⟨rfl, rfl, rfl⟩ := trodAll_nil r1
  obtain rfl : args = #[v0, v1] := by cases args; simp_all
  obtain ⟨rfl, rfl⟩ := trodVars_none hV
  obtain ⟨xs0, hv0, hx0⟩ := okWide_six Try.underlying39 (show Try.prog.cellsOf 39 = 6 by kernel_rfl) (hval 0 39 v0 rfl rfl)
  subst hv0
  obtain ⟨v00, v01, v02, v03, v04, v05, hxe0⟩ := six_cells hx0
  subst hxe0
  obtain ⟨fu0, hf0⟩ := h0
  obtain ⟨y00, y01, y02, y03, y04, y05, nn0, hd0, hy00, hy01, hy02, hy03, hy04, hy05⟩ := trod_array6 Try.underlying39 (show Try.prog.cellsOf 3 = 1 by kernel_rfl) (by simpa [Value.cells] using hf0)
  simp only [Prod.mk.injEq] at hd0
  obtain ⟨rfl, rfl⟩ := hd0
  obtain ⟨a00, e00, rfl, w00⟩ := DataW.trod_int Try.underlying3 hy00
  obtain ⟨a01, e01, rfl, w01⟩ := DataW.trod_int Try.underlying3 hy01
  obtain ⟨a02, e02, rfl, w02⟩ := DataW.trod_int Try.underlying3 hy02
  obtain ⟨a03, e03, rfl, w03⟩ := DataW.trod_int Try.underlying3 hy03
  obtain ⟨a04, e04, rfl, w04⟩ := DataW.trod_int Try.underlying3 hy04
  obtain ⟨a05, e05, rfl, w05⟩ := DataW.trod_int Try.underlying3 hy05
  simp at e00 e01 e02 e03 e04 e05
  subst e00 e01 e02 e03 e04 e05
  simp only [List.append_nil] at hW'
  have b00 := bd_i64 w00
  have b01 := bd_i64 w01
  have b02 := bd_i64 w02
  have b03 := bd_i64 w03
  have b04 := bd_i64 w04
  have b05 := bd_i64 w05
  have sr0 : ∀ (W' : World) (sp : Nat → Bool), DataW.Trod enc Try.prog W' 0 sp true 39 (.agg #[.int .i64 a00, .int .i64 a01, .int .i64 a02, .int .i64 a03, .int .i64 a04, .int .i64 a05]) (.agg [.lit (.int .i64 a00), .lit (.int .i64 a01), .lit (.int .i64 a02), .lit (.int .i64 a03), .lit (.int .i64 a04), .lit (.int .i64 a05)]) [] := fun W' sp =>
    shut_six Try.underlying39 (show Try.prog.cellsOf 3 = 1 by kernel_rfl) (show Try.prog.cellsOf 39 = 6 by kernel_rfl) (show DataW.trod enc Try.prog W' 0 sp true 1 3 [.int .i64 a00] = some (.lit (.int .i64 a00), []) by simp [DataW.trod, Try.underlying3, w00]) (show DataW.trod enc Try.prog W' 0 sp true 1 3 [.int .i64 a01] = some (.lit (.int .i64 a01), []) by simp [DataW.trod, Try.underlying3, w01]) (show DataW.trod enc Try.prog W' 0 sp true 1 3 [.int .i64 a02] = some (.lit (.int .i64 a02), []) by simp [DataW.trod, Try.underlying3, w02]) (show DataW.trod enc Try.prog W' 0 sp true 1 3 [.int .i64 a03] = some (.lit (.int .i64 a03), []) by simp [DataW.trod, Try.underlying3, w03]) (show DataW.trod enc Try.prog W' 0 sp true 1 3 [.int .i64 a04] = some (.lit (.int .i64 a04), []) by simp [DataW.trod, Try.underlying3, w04]) (show DataW.trod enc Try.prog W' 0 sp true 1 3 [.int .i64 a05] = some (.lit (.int .i64 a05), []) by simp [DataW.trod, Try.underlying3, w05])
  obtain ⟨a1, rfl, rfl, rfl, w1⟩ := open_int Try.underlying3 (hval 1 3 v1 rfl rfl) h1
  obtain ⟨b1, c1⟩ := bd_i64 w1
  clear hA0 hval0
  refine (order_walk a00 a01 a02 a03 a04 a05 a1 W b00 b01 b02 b03 b04 b05 b1 c1).mono fun e W' ⟨he, bel⟩ => ?_
  subst he
  exact ⟨_, rfl, _, _, _, [], _, [], hW', trodAll_mk1 (shut_bool Try.underlying4 _), (trodAll_cons_mk (sr0 _ _) (trodAll_cons_mk (shut_int Try.underlying3 w1) trodAll_mk0)), rfl, bel.frame _, fun h => by cases h⟩

theorem over : Rows.fixOrderRow.holds Try.pinned (OpenSpec.ofChange Rows.fixOrderSpec) :=
  OpenClaim.holds_of_wide 11 Try.f11 rfl rfl rfl rfl rfl rfl rfl ⟨rfl, rfl, rfl, rfl, rfl⟩ rfl rfl rfl rfl rfl (by kernel_rfl) Try.func11 (by kernel_rfl)
    (of_decide_eq_true (by kernel_rfl)) (by unfold Func.isWrapper; first | (rw [if_pos (by decide +kernel)]; kernel_rfl) | (rw [if_neg (by decide +kernel)]; exact ⟨rfl, rfl⟩))
    (fun os started H enc _ => lifted os started H enc)

theorem proved : Rows.FixOrderSaid := over
#print axioms proved
end Go.Proofs.Ytphdpdmkoogkkaa.fixOrder
