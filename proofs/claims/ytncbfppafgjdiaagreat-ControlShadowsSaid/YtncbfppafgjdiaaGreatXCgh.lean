/- ControlShadows: up to the first promotion of either, two rows of events that are alike but for shadows policies tell the same decisions. Whatever the input: it answers true, and the input reads as it did. -/
import Derived.Test.YtncbfppafgjdiaaGreatXCghl
set_option linter.unusedVariables false
set_option linter.unusedSimpArgs false
namespace Go.Proofs.YtncbfppafgjdiaaGreat
open Go Go.ChangeShapes Go.RowKit

set_option maxRecDepth 100000 in
theorem controlShadows_lifted (os : Os) (started : os.Started) (H : Type) (enc : TypeId × Value → H) :
    ReturnsInHanded {} Tryz.checked os 5 .any (Rows.controlShadowsSpec.pre6 enc Tryz.prog Tryz.f5 Rows.controlShadowsRow.domain false) (Rows.controlShadowsSpec.post enc Tryz.prog Tryz.f5 false true false false) := by
  refine returnsInHanded_of_change (C := Tryz.checked) Tryz.own started (by kernel_rfl) Tryz.func5
    (ChangeSpec.witness6 (enc := enc) (C := Tryz.checked) false ⟨#[], #[.slice none 0 0, .slice none 0 0], []⟩ 8 (by kernel_rfl) (by kernel_rfl) (by kernel_rfl) (by kernel_rfl)) ?_
  intro W base args ds gs before hval0 hW hcnd _
  have hval : ∀ (j : Nat) t v, (#[22, 54] : Array TypeId)[j]? = some t → args[j]? = some v → Value.okWide tE.P W .any base t v := hval0
  have hW' := hW
  obtain ⟨p, q, hA0, hV, rfl, hfz, hnd⟩ := hW
  have hA : DataW.TrodAll enc tE.P W 0 (fun _ => true) true [22, 54] args.toList ds p := hA0
  obtain ⟨v0, v1, d0, d1, p0, p1, rfl, rfl, rfl, h0, h1⟩ := trodAll_two hA
  obtain ⟨rfl, rfl⟩ := trodVars_none hV
  obtain ⟨x0, k0, m0⟩ := arg_V (t := 22) 6 (by decide +kernel) (fun fs => by rw [show tE.P.underlying 22 = some (.slice 50) from (tOK.td 22 rfl).1]; simp) (fun a b => by rw [show tE.P.underlying 22 = some (.slice 50) from (tOK.td 22 rfl).1]; simp) (hval 0 _ v0 rfl rfl) h0
  obtain ⟨x1, k1, m1⟩ := arg_V (t := 54) 5 (by decide +kernel) (fun fs => by rw [show tE.P.underlying 54 = some (.slice 30) from (tOK.td 54 rfl).1]; simp) (fun a b => by rw [show tE.P.underlying 54 = some (.slice 30) from (tOK.td 54 rfl).1]; simp) (hval 1 _ v1 rfl rfl) h1
  obtain ⟨l, rfl, hl, hE⟩ := dat_evs m0
  obtain ⟨o, rfl, ho, hP⟩ := dat_pols m1
  refine (law_calls (VL.two k0 k1) (fun R h => C_shadows (Nat.le_trans hl (by decide)) hE (Nat.le_trans ho (by decide)) (h _))).mono ?_
  rintro e W' ⟨rfl, hb⟩
  exact ⟨_, rfl, law_post hW' hb rfl rfl rfl (by kernel_rfl)⟩

theorem controlShadows_holds : Rows.ControlShadowsSaid :=
  OpenClaim.holds_of_wide 5 Tryz.f5 rfl rfl rfl rfl rfl rfl rfl ⟨rfl, rfl, rfl, rfl, rfl⟩ rfl rfl rfl rfl rfl (by kernel_rfl) Tryz.func5 (by kernel_rfl)
    (of_decide_eq_true (by kernel_rfl)) (by unfold Func.isWrapper; first | (rw [if_pos (by decide +kernel)]; kernel_rfl) | (rw [if_neg (by decide +kernel)]; exact ⟨rfl, rfl⟩))
    (fun os started H enc _ => controlShadows_lifted os started H enc)
#print axioms controlShadows_holds
end Go.Proofs.YtncbfppafgjdiaaGreat
