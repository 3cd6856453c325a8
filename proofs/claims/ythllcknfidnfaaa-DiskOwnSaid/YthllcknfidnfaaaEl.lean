/- DiskOwn: what is handed in is not kept, and what is handed out is one's own. Whatever the input: it answers true, and the input reads as it did. -/
import Derived.Test.YthllcknfidnfaaaEk
import Derived.Test.YthllcknfidnfaaaDy
set_option linter.unusedVariables false
set_option linter.unusedSimpArgs false
namespace Go.Proofs.Ythllcknfidnfaaa
open Go Go.ChangeShapes Go.RowKit

set_option maxRecDepth 100000 in
theorem own_lifted (os : Os) (started : os.Started) (H : Type) (enc : TypeId × Value → H) :
    ReturnsInHanded {} Try.checked os 5 .any (Rows.diskOwnSpec.pre6 enc Try.prog Try.f5 Rows.diskOwnRow.domain false) (Rows.diskOwnSpec.post enc Try.prog Try.f5 false true false false) := by
  refine returnsInHanded_of_change (C := Try.checked) Try.own started (by kernel_rfl) Try.func5
    (ChangeSpec.witness6 (enc := enc) (C := Try.checked) false ⟨#[], #[.slice none 0 0, .slice none 0 0], []⟩ 8 (by kernel_rfl) (by kernel_rfl) (by kernel_rfl) (by kernel_rfl)) ?_
  intro W base args ds gs before hval0 hW hcnd _
  have hval : ∀ (j : Nat) t v, (#[32, 32] : Array TypeId)[j]? = some t → args[j]? = some v → Value.okWide tE.P W .any base t v := hval0
  have hW' := hW
  obtain ⟨p, q, hA0, hV, rfl, hfz, hnd⟩ := hW
  have hA : DataW.TrodAll enc tE.P W 0 (fun _ => true) true [32, 32] args.toList ds p := hA0
  obtain ⟨v0, v1, d0, d1, p0, p1, rfl, rfl, rfl, h0, h1⟩ := trodAll_two hA
  obtain ⟨rfl, rfl⟩ := trodVars_none hV
  have ub : tE.P.underlying 32 = some (.slice 5) := (tOK.td 32 rfl).1
  obtain ⟨x0, k0, m0⟩ := arg_V (t := 32) 2 (by decide +kernel) (fun fs => by rw [ub]; simp) (fun a b => by rw [ub]; simp) (hval 0 _ v0 rfl rfl) h0
  obtain ⟨x1, k1, m1⟩ := arg_V (t := 32) 2 (by decide +kernel) (fun fs => by rw [ub]; simp) (fun a b => by rw [ub]; simp) (hval 1 _ v1 rfl rfl) h1
  obtain ⟨a, rfl, ha⟩ := dat_bytes m0
  obtain ⟨b, rfl, hb⟩ := dat_bytes m1
  refine (law_calls (VL.two k0 k1) (fun R h => C_own_law ha hb h)).mono ?_
  rintro e W' ⟨rfl, hb⟩
  exact ⟨_, rfl, law_post hW' hb rfl rfl rfl (by kernel_rfl)⟩

theorem diskOwn_holds : Rows.DiskOwnSaid :=
  OpenClaim.holds_of_wide 5 Try.f5 rfl rfl rfl rfl rfl rfl rfl ⟨rfl, rfl, rfl, rfl, rfl⟩ rfl rfl rfl rfl rfl (by kernel_rfl) Try.func5 (by kernel_rfl)
    (of_decide_eq_true (by kernel_rfl)) (by unfold Func.isWrapper; first | (rw [if_pos (by decide +kernel)]; kernel_rfl) | (rw [if_neg (by decide +kernel)]; exact ⟨rfl, rfl⟩))
    (fun os started H enc _ => own_lifted os started H enc)
#print axioms diskOwn_holds
end Go.Proofs.Ythllcknfidnfaaa
