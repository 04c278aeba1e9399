/-
  FieldHolds holds: whatever it is handed, the law answers true, and its arguments read as before. No condition.
-/
import Derived.Test.YtejpadofecboiaaF7
import Derived.Test.YtejpadofecboiaaC1
namespace Go.Proofs.Ytejpadofecboiaa
open Go.RowKit Go.ChangeShapes Go.WideShapes Go.ChangeAt
set_option linter.unusedVariables false

set_option maxRecDepth 100000 in
theorem fieldHolds_lifted (os : Os) (started : os.Started) (H : Type) (enc : TypeId × Value → H) :
    ReturnsInHanded {} Try.checked os 5 .any (Rows.fieldHoldsSpec.pre6 enc Try.prog Try.f5 Rows.fieldHoldsRow.domain false) (Rows.fieldHoldsSpec.post enc Try.prog Try.f5 false true false false) := by
  refine returnsInHanded_of_change_sized (C := Try.checked) Try.ownK started (by kernel_rfl) Try.func5
    (ChangeSpec.witness6 (enc := enc) (C := Try.checked) false ⟨#[], #[.int .i64 0, .int .i64 0, .int .i64 0, .int .i64 0, .slice none 0 0], []⟩ 8 (by kernel_rfl) (by kernel_rfl) (by kernel_rfl) (by kernel_rfl)) ?_
  intro W base args ds gs before hval0 hW hcnd hwt _
  have hval : ∀ (j : Nat) t v, Try.f5.params[j]? = some t → args[j]? = some v → Value.okWide Try.prog W .any base t v := hval0
  have hW' := hW
  obtain ⟨p, q, hA0, hV, rfl, hfz, hnd⟩ := hW
  have hA : DataW.TrodAll enc Try.prog W 0 (fun _ => true) true Try.f5.params.toList args.toList ds p := hA0
  rw [Try.params5] at hA hval
  obtain ⟨v0, vs0, d0, ds0, p0, q0, hargs, rfl, rfl, h0, r0⟩ := trodAll_cons hA
  obtain ⟨v1, vs1, d1, ds1, p1, q1, rfl, rfl, rfl, h1, r1⟩ := trodAll_cons r0
  obtain ⟨v2, vs2, d2, ds2, p2, q2, rfl, rfl, rfl, h2, r2⟩ := trodAll_cons r1
  obtain ⟨v3, vs3, d3, ds3, p3, q3, rfl, rfl, rfl, h3, r3⟩ := trodAll_cons r2
  obtain ⟨v4, vs4, d4, ds4, p4, q4, rfl, rfl, rfl, h4, r4⟩ := trodAll_cons r3
  obtain ⟨rfl, rfl, rfl⟩ := trodAll_nil r4
  obtain rfl : args = #[v0, v1, v2, v3, v4] := by cases args; simp_all
  obtain ⟨rfl, rfl⟩ := trodVars_none hV
  rw [Try.params5] at hwt
  obtain ⟨w0, hwt⟩ := weights_head hwt
  obtain ⟨w1, hwt⟩ := weights_head hwt
  obtain ⟨w2, hwt⟩ := weights_head hwt
  obtain ⟨w3, hwt⟩ := weights_head hwt
  obtain ⟨w4, hwt⟩ := weights_head hwt
  obtain ⟨n0, rfl⟩ := okWide_int Try.underlying3 (hval 0 _ v0 rfl rfl)
  obtain ⟨n1, rfl⟩ := okWide_int Try.underlying3 (hval 1 _ v1 rfl rfl)
  obtain ⟨n2, rfl⟩ := okWide_int Try.underlying3 (hval 2 _ v2 rfl rfl)
  obtain ⟨n3, rfl⟩ := okWide_int Try.underlying3 (hval 3 _ v3 rfl rfl)
  obtain ⟨s4, n4, k4, rfl⟩ := okWide_slice Try.underlying22 (hval 4 _ v4 rfl rfl)
  obtain ⟨x0, g0, b0⟩ := arg_cell Try.opensInt (fun _ => rfl) (int_cells _ _) h0 w0
  obtain ⟨x1, g1, b1⟩ := arg_cell Try.opensInt (fun _ => rfl) (int_cells _ _) h1 w1
  obtain ⟨x2, g2, b2⟩ := arg_cell Try.opensInt (fun _ => rfl) (int_cells _ _) h2 w2
  obtain ⟨x3, g3, b3⟩ := arg_cell Try.opensInt (fun _ => rfl) (int_cells _ _) h3 w3
  obtain ⟨x4, g4, b4⟩ := arg_cell Try.opensRows (fun _ => rfl) (slice_cells _ _ _) h4 w4
  refine (law_calls (fieldHolds_pure x0 x1 x2 x3 x4 b1 b2 b3 (by have := len_le b4.2 Try.bytes_ints; omega) (fun r hr => by have := len_le (b4.1 r hr).2 Try.bytes_int; omega)) (.cons g0 (.cons g1 (.cons g2 (.cons g3 (.cons g4 .nil)))))).mono fun e W' ⟨he, hb⟩ => ?_
  subst he
  exact ⟨_, rfl, law_post hW' rfl Try.laidOutK (of_decide_eq_true (by kernel_rfl)) (tb := 4) rfl Try.underlying4 rfl rfl rfl hb⟩

theorem fieldHolds_holds : Rows.FieldHoldsSaid :=
  OpenClaim.holds_of_wide 5 Try.f5 rfl rfl rfl rfl rfl rfl rfl ⟨rfl, rfl, rfl, rfl, rfl⟩ rfl rfl rfl rfl rfl (by kernel_rfl) Try.func5 (by kernel_rfl)
    (of_decide_eq_true (by kernel_rfl)) (by unfold Func.isWrapper; first | (rw [if_pos (by decide +kernel)]; kernel_rfl) | (rw [if_neg (by decide +kernel)]; exact ⟨rfl, rfl⟩))
    (fun os started H enc _ => fieldHolds_lifted os started H enc)

end Go.Proofs.Ytejpadofecboiaa
