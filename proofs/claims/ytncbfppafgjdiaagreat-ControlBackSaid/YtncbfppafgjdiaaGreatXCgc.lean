/- ControlBack: when more ticks of a probation were bad than may be, the next tick tells a rollback, ahead of its decision. Whatever the input: it answers true, and the input reads as it did. -/
import Derived.Test.YtncbfppafgjdiaaGreatXCgcl
set_option linter.unusedVariables false
set_option linter.unusedSimpArgs false
namespace Go.Proofs.YtncbfppafgjdiaaGreat
open Go Go.ChangeShapes Go.RowKit

set_option maxRecDepth 100000 in
theorem controlBack_lifted (os : Os) (started : os.Started) (H : Type) (enc : TypeId × Value → H) :
    ReturnsInHanded {} Tryz.checked os 7 .any (Rows.controlBackSpec.pre6 enc Tryz.prog Tryz.f7 Rows.controlBackRow.domain false) (Rows.controlBackSpec.post enc Tryz.prog Tryz.f7 false true false false) := by
  refine returnsInHanded_of_change (C := Tryz.checked) Tryz.own started (by kernel_rfl) Tryz.func7
    (ChangeSpec.witness6 (enc := enc) (C := Tryz.checked) false ⟨#[], #[.slice none 0 0, .int .i64 0], []⟩ 8 (by kernel_rfl) (by kernel_rfl) (by kernel_rfl) (by kernel_rfl)) ?_
  intro W base args ds gs before hval0 hW hcnd _
  have hval : ∀ (j : Nat) t v, (#[22, 2] : Array TypeId)[j]? = some t → args[j]? = some v → Value.okWide tE.P W .any base t v := hval0
  have hW' := hW
  obtain ⟨p, q, hA0, hV, rfl, hfz, hnd⟩ := hW
  have hA : DataW.TrodAll enc tE.P W 0 (fun _ => true) true [22, 2] args.toList ds p := hA0
  obtain ⟨v0, v1, d0, d1, p0, p1, rfl, rfl, rfl, h0, h1⟩ := trodAll_two hA
  obtain ⟨rfl, rfl⟩ := trodVars_none hV
  obtain ⟨x0, k0, m0⟩ := arg_V (t := 22) 6 (by decide +kernel) (fun fs => by rw [show tE.P.underlying 22 = some (.slice 50) from (tOK.td 22 rfl).1]; simp) (fun a b => by rw [show tE.P.underlying 22 = some (.slice 50) from (tOK.td 22 rfl).1]; simp) (hval 0 _ v0 rfl rfl) h0
  obtain ⟨x1, k1, m1⟩ := arg_V (t := 2) 1 (by decide +kernel) (fun fs => by rw [show tE.P.underlying 2 = some (.int .i64) from tOK.td 2 rfl]; simp) (fun a b => by rw [show tE.P.underlying 2 = some (.int .i64) from tOK.td 2 rfl]; simp) (hval 1 _ v1 rfl rfl) h1
  obtain ⟨l, rfl, hl, hE⟩ := dat_evs m0
  obtain ⟨t, rfl, t0, t1⟩ := dat_i64 m1
  refine (law_calls (VL.two k0 k1) (fun R h => C_back (Nat.le_trans hl (by decide)) hE (h _))).mono ?_
  rintro e W' ⟨rfl, hb⟩
  exact ⟨_, rfl, law_post hW' hb rfl rfl rfl (by kernel_rfl)⟩

theorem controlBack_holds : Rows.ControlBackSaid :=
  OpenClaim.holds_of_wide 7 Tryz.f7 rfl rfl rfl rfl rfl rfl rfl ⟨rfl, rfl, rfl, rfl, rfl⟩ rfl rfl rfl rfl rfl (by kernel_rfl) Tryz.func7 (by kernel_rfl)
    (of_decide_eq_true (by kernel_rfl)) (by unfold Func.isWrapper; first | (rw [if_pos (by decide +kernel)]; kernel_rfl) | (rw [if_neg (by decide +kernel)]; exact ⟨rfl, rfl⟩))
    (fun os started H enc _ => controlBack_lifted os started H enc)
#print axioms controlBack_holds
end Go.Proofs.YtncbfppafgjdiaaGreat
