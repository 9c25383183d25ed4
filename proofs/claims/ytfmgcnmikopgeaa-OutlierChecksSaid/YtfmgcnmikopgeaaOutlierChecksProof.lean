/- Proved: the Go law OutlierChecks returns true for every input and leaves its arguments as they were. (The law says: Which watches may be is the document's.)
   Conditions: No condition: it speaks of every input of its parameter types that can be read as data (the form's own reach). The frame follows the kit's proof-skeleton. -/
import Derived.Test.YtfmgcnmikopgeaaRows
import Derived.Test.YtfmgcnmikopgeaaOutlierChecks
import Derived.Test.YtfmgcnmikopgeaaSeven
import Derived.Lib.SmallJoins
import Derived.WalkKit
import Derived.ProofKit
import Derived.OpenShut
import Derived.ShutString
import Derived.ChangeOld
import Derived.Below
import Derived.Carry
namespace Go.Proofs.Ytfmgcnmikopgeaa.outlierChecks
open Go.ChangeShapes Go.WideShapes Go.ChangeAt Go.RowKit

theorem own : ownKnob Try.prog.godebug = none := by kernel_rfl
theorem laidOut : laidOutB Try.prog = true := by kernel_rfl

set_option maxRecDepth 100000 in
theorem lifted (os : Os) (started : os.Started) (H : Type) (enc : TypeId × Value → H) :
    ReturnsInHanded {} Try.checked os 6 .any (Rows.outlierChecksSpec.pre6 enc Try.prog Try.f6 Rows.outlierChecksRow.domain false) (Rows.outlierChecksSpec.post enc Try.prog Try.f6 false true false false) := by
  refine returnsInHanded_of_change (C := Try.checked) own started (by kernel_rfl) Try.func6
    (ChangeSpec.witness6 (enc := enc) (C := Try.checked) false ⟨#[], #[.agg #[.int .i64 0, .int .i64 0, .int .i64 0, .int .i64 0, .int .i64 0, .int .i64 0, .int .i64 0], .int .i64 0, .int .i64 0, .int .i64 0], []⟩ 8 (by kernel_rfl) (by kernel_rfl) (by kernel_rfl) (by kernel_rfl)) ?_
  intro W base args ds gs before hval0 hW hcnd _
  have hval : ∀ (j : Nat) t v, Try.f6.params[j]? = some t → args[j]? = some v → Value.okWide Try.prog W .any base t v := hval0
  have hW' := hW
  obtain ⟨p, q, hA0, hV, rfl, hfz, hnd⟩ := hW
  have hA : DataW.TrodAll enc Try.prog W 0 (fun _ => true) true Try.f6.params.toList args.toList ds p := hA0
  rw [Try.params6] at hA hval
  obtain ⟨v0, vs0, d0, ds0, p0, q0, hargs, rfl, rfl, h0, r0⟩ := trodAll_cons hA
  obtain ⟨v1, vs1, d1, ds1, p1, q1, rfl, rfl, rfl, h1, r1⟩ := trodAll_cons r0
  obtain ⟨v2, vs2, d2, ds2, p2, q2, rfl, rfl, rfl, h2, r2⟩ := trodAll_cons r1
  obtain ⟨v3, vs3, d3, ds3, p3, q3, rfl, rfl, rfl, h3, r3⟩ := trodAll_cons r2
  obtain ⟨rfl, rfl, rfl⟩ := trodAll_nil r3
  obtain rfl : args = #[v0, v1, v2, v3] := by cases args; simp_all
  obtain ⟨rfl, rfl⟩ := trodVars_none hV
  obtain ⟨v00, v01, v02, v03, v04, v05, v06, y00, y01, y02, y03, y04, y05, y06, m0, rfl, rfl, rfl, hy00, hy01, hy02, hy03, hy04, hy05, hy06⟩ := open_agg7 Try.underlying24 (by kernel_rfl) (show Try.prog.cellsOf 24 = 7 by kernel_rfl) (hval 0 24 v0 rfl rfl) h0
  obtain ⟨a00, e00, rfl, w00⟩ := DataW.trod_int Try.underlying3 hy00
  obtain ⟨a01, e01, rfl, w01⟩ := DataW.trod_int Try.underlying3 hy01
  obtain ⟨a02, e02, rfl, w02⟩ := DataW.trod_int Try.underlying3 hy02
  obtain ⟨a03, e03, rfl, w03⟩ := DataW.trod_int Try.underlying3 hy03
  obtain ⟨a04, e04, rfl, w04⟩ := DataW.trod_int Try.underlying3 hy04
  obtain ⟨a05, e05, rfl, w05⟩ := DataW.trod_int Try.underlying3 hy05
  obtain ⟨a06, e06, rfl, w06⟩ := DataW.trod_int Try.underlying3 hy06
  simp at e00 e01 e02 e03 e04 e05 e06
  subst e00 e01 e02 e03 e04 e05 e06
  simp only [List.append_nil] at hW'
  have sr0 : ∀ (W' : World) (sp : Nat → Bool), DataW.Trod enc Try.prog W' 0 sp true 24 (.agg #[.int .i64 a00, .int .i64 a01, .int .i64 a02, .int .i64 a03, .int .i64 a04, .int .i64 a05, .int .i64 a06]) (.agg [.lit (.int .i64 a00), .lit (.int .i64 a01), .lit (.int .i64 a02), .lit (.int .i64 a03), .lit (.int .i64 a04), .lit (.int .i64 a05), .lit (.int .i64 a06)]) [] := fun W' sp =>
    shut_agg7 Try.underlying24 (by kernel_rfl) (show Try.prog.cellsOf 24 = 7 by kernel_rfl) (by simp [DataW.trod, Try.underlying3, w00]) (by simp [DataW.trod, Try.underlying3, w01]) (by simp [DataW.trod, Try.underlying3, w02]) (by simp [DataW.trod, Try.underlying3, w03]) (by simp [DataW.trod, Try.underlying3, w04]) (by simp [DataW.trod, Try.underlying3, w05]) (by simp [DataW.trod, Try.underlying3, w06])
  obtain ⟨a1, rfl, rfl, rfl, w1⟩ := open_int Try.underlying3 (hval 1 3 v1 rfl rfl) h1
  obtain ⟨b1, c1⟩ := bd_i64 w1
  obtain ⟨a2, rfl, rfl, rfl, w2⟩ := open_int Try.underlying3 (hval 2 3 v2 rfl rfl) h2
  obtain ⟨b2, c2⟩ := bd_i64 w2
  obtain ⟨a3, rfl, rfl, rfl, w3⟩ := open_int Try.underlying3 (hval 3 3 v3 rfl rfl) h3
  obtain ⟨b3, c3⟩ := bd_i64 w3
  clear hA0 hval0
  refine (checks_walk ⟨a00, a01, a02, a03, a04, a05, a06⟩ a1 a2 a3 W b1 c1 b2 c2).mono fun e W' ⟨he, bel⟩ => ?_
  subst he
  exact ⟨_, rfl, _, _, _, [], _, [], hW', trodAll_mk1 (shut_bool Try.underlying4 _), (trodAll_cons_mk (sr0 _ _) (trodAll_cons_mk (shut_int Try.underlying3 w1) (trodAll_cons_mk (shut_int Try.underlying3 w2) (trodAll_cons_mk (shut_int Try.underlying3 w3) trodAll_mk0)))), rfl, bel.frame _, fun h => by cases h⟩

theorem over : Rows.outlierChecksRow.holds Try.pinned (OpenSpec.ofChange Rows.outlierChecksSpec) :=
  OpenClaim.holds_of_wide 6 Try.f6 rfl rfl rfl rfl rfl rfl rfl ⟨rfl, rfl, rfl, rfl, rfl⟩ rfl rfl rfl rfl rfl (by kernel_rfl) Try.func6 (by kernel_rfl)
    (of_decide_eq_true (by kernel_rfl)) (by unfold Func.isWrapper; first | (rw [if_pos (by decide +kernel)]; kernel_rfl) | (rw [if_neg (by decide +kernel)]; exact ⟨rfl, rfl⟩))
    (fun os started H enc _ => lifted os started H enc)

theorem proved : Rows.OutlierChecksSaid := over
#print axioms proved
end Go.Proofs.Ytfmgcnmikopgeaa.outlierChecks
