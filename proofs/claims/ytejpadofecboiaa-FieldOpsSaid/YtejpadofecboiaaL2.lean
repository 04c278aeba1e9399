/-
  FieldOps holds: whatever it is handed, the law answers true, and its arguments read as before. No condition.
-/
import Derived.Test.YtejpadofecboiaaF6
import Derived.Test.YtejpadofecboiaaC1
namespace Go.Proofs.Ytejpadofecboiaa
open Go.RowKit Go.ChangeShapes Go.WideShapes Go.ChangeAt
set_option linter.unusedVariables false

set_option maxRecDepth 100000 in
theorem fieldOps_lifted (os : Os) (started : os.Started) (H : Type) (enc : TypeId × Value → H) :
    ReturnsInHanded {} Try.checked os 4 .any (Rows.fieldOpsSpec.pre6 enc Try.prog Try.f4 Rows.fieldOpsRow.domain false) (Rows.fieldOpsSpec.post enc Try.prog Try.f4 false true false false) := by
  refine returnsInHanded_of_change_sized (C := Try.checked) Try.ownK started (by kernel_rfl) Try.func4
    (ChangeSpec.witness6 (enc := enc) (C := Try.checked) false ⟨#[], #[.int .i64 0, .int .i64 0, .int .i64 0], []⟩ 8 (by kernel_rfl) (by kernel_rfl) (by kernel_rfl) (by kernel_rfl)) ?_
  intro W base args ds gs before hval0 hW hcnd hwt _
  have hval : ∀ (j : Nat) t v, Try.f4.params[j]? = some t → args[j]? = some v → Value.okWide Try.prog W .any base t v := hval0
  have hW' := hW
  obtain ⟨p, q, hA0, hV, rfl, hfz, hnd⟩ := hW
  have hA : DataW.TrodAll enc Try.prog W 0 (fun _ => true) true Try.f4.params.toList args.toList ds p := hA0
  rw [Try.params4] at hA hval
  obtain ⟨v0, vs0, d0, ds0, p0, q0, hargs, rfl, rfl, h0, r0⟩ := trodAll_cons hA
  obtain ⟨v1, vs1, d1, ds1, p1, q1, rfl, rfl, rfl, h1, r1⟩ := trodAll_cons r0
  obtain ⟨v2, vs2, d2, ds2, p2, q2, rfl, rfl, rfl, h2, r2⟩ := trodAll_cons r1
  obtain ⟨rfl, rfl, rfl⟩ := trodAll_nil r2
  obtain rfl : args = #[v0, v1, v2] := by cases args; simp_all
  obtain ⟨rfl, rfl⟩ := trodVars_none hV
  rw [Try.params4] at hwt
  obtain ⟨w0, hwt⟩ := weights_head hwt
  obtain ⟨w1, hwt⟩ := weights_head hwt
  obtain ⟨w2, hwt⟩ := weights_head hwt
  obtain ⟨n0, rfl⟩ := okWide_int Try.underlying3 (hval 0 _ v0 rfl rfl)
  obtain ⟨n1, rfl⟩ := okWide_int Try.underlying3 (hval 1 _ v1 rfl rfl)
  obtain ⟨n2, rfl⟩ := okWide_int Try.underlying3 (hval 2 _ v2 rfl rfl)
  obtain ⟨x0, g0, b0⟩ := arg_cell Try.opensInt (fun _ => rfl) (int_cells _ _) h0 w0
  obtain ⟨x1, g1, b1⟩ := arg_cell Try.opensInt (fun _ => rfl) (int_cells _ _) h1 w1
  obtain ⟨x2, g2, b2⟩ := arg_cell Try.opensInt (fun _ => rfl) (int_cells _ _) h2 w2
  refine (law_calls (fieldOps_pure x0 x1 x2) (.cons g0 (.cons g1 (.cons g2 .nil)))).mono fun e W' ⟨he, hb⟩ => ?_
  subst he
  exact ⟨_, rfl, law_post hW' rfl Try.laidOutK (of_decide_eq_true (by kernel_rfl)) (tb := 4) rfl Try.underlying4 rfl rfl rfl hb⟩

theorem fieldOps_holds : Rows.FieldOpsSaid :=
  OpenClaim.holds_of_wide 4 Try.f4 rfl rfl rfl rfl rfl rfl rfl ⟨rfl, rfl, rfl, rfl, rfl⟩ rfl rfl rfl rfl rfl (by kernel_rfl) Try.func4 (by kernel_rfl)
    (of_decide_eq_true (by kernel_rfl)) (by unfold Func.isWrapper; first | (rw [if_pos (by decide +kernel)]; kernel_rfl) | (rw [if_neg (by decide +kernel)]; exact ⟨rfl, rfl⟩))
    (fun os started H enc _ => fieldOps_lifted os started H enc)

end Go.Proofs.Ytejpadofecboiaa
