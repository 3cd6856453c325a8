/- DiskPlays: calls of a disk of any room answer as the document says; so do all files, their bytes, how many of them last, and how many there are. Whatever the input: it answers true, and the input reads as it did. -/
import Derived.Test.YtdplbgfokoajjaaXm
import Derived.Test.YtdplbgfokoajjaaXh
set_option linter.unusedVariables false
set_option linter.unusedSimpArgs false
namespace Go.Proofs.Ytdplbgfokoajjaa
open Go Go.ChangeShapes Go.RowKit

set_option maxRecDepth 100000 in
theorem diskPlays_lifted (os : Os) (started : os.Started) (H : Type) (enc : TypeId × Value → H) :
    ReturnsInHanded {} Try.checked os 4 .any (Rows.diskPlaysSpec.pre6 enc Try.prog Try.f4 Rows.diskPlaysRow.domain false) (Rows.diskPlaysSpec.post enc Try.prog Try.f4 false true false false) := by
  refine returnsInHanded_of_change (C := Try.checked) Try.own started (by kernel_rfl) Try.func4
    (ChangeSpec.witness6 (enc := enc) (C := Try.checked) false ⟨#[], #[.int .i64 0, .slice none 0 0, .string ⟨#[]⟩], []⟩ 8 (by kernel_rfl) (by kernel_rfl) (by kernel_rfl) (by kernel_rfl)) ?_
  intro W base args ds gs before hval0 hW hcnd _
  have hval : ∀ (j : Nat) t v, (#[3, 32, 9] : Array TypeId)[j]? = some t → args[j]? = some v → Value.okWide tE.P W .any base t v := hval0
  have hW' := hW
  obtain ⟨p, q, hA0, hV, rfl, hfz, hnd⟩ := hW
  have hA : DataW.TrodAll enc tE.P W 0 (fun _ => true) true [3, 32, 9] args.toList ds p := hA0
  obtain ⟨v0, v1, v2, d0, d1, d2, p0, p1, p2, rfl, rfl, rfl, h0, h1, h2⟩ := trodAll_three hA
  obtain ⟨rfl, rfl⟩ := trodVars_none hV
  obtain ⟨x0, k0, m0⟩ := arg_V (t := 3) 1 (by decide +kernel) (fun fs => by rw [show tE.P.underlying 3 = some (.int .i64) from tOK.td 3 rfl]; simp) (fun a b => by rw [show tE.P.underlying 3 = some (.int .i64) from tOK.td 3 rfl]; simp) (hval 0 _ v0 rfl rfl) h0
  obtain ⟨x1, k1, m1⟩ := arg_V (t := 32) 5 (by decide +kernel) (fun fs => by rw [show tE.P.underlying 32 = some (.slice 41) from (tOK.td 32 rfl).1]; simp) (fun a b => by rw [show tE.P.underlying 32 = some (.slice 41) from (tOK.td 32 rfl).1]; simp) (hval 1 _ v1 rfl rfl) h1
  obtain ⟨x2, k2, m2⟩ := arg_V (t := 9) 1 (by decide +kernel) (fun fs => by rw [show tE.P.underlying 9 = some .string from tOK.td 9 rfl]; simp) (fun a b => by rw [show tE.P.underlying 9 = some .string from tOK.td 9 rfl]; simp) (hval 2 _ v2 rfl rfl) h2
  obtain ⟨n, rfl, _⟩ := dat_int m0
  obtain ⟨l, rfl, hl, hO⟩ := dat_ops m1
  obtain ⟨s, rfl, hs⟩ := dat_str m2
  refine (law_calls (VL.app (xs := [_]) k0 (VL.two k1 k2)) (fun R h => C_dplays (Nat.le_trans hl (by decide)) hO hs (h _))).mono ?_
  rintro e W' ⟨rfl, hb⟩
  exact ⟨_, rfl, law_post hW' hb rfl rfl rfl (by kernel_rfl)⟩

theorem diskPlays_holds : Rows.DiskPlaysSaid :=
  OpenClaim.holds_of_wide 4 Try.f4 rfl rfl rfl rfl rfl rfl rfl ⟨rfl, rfl, rfl, rfl, rfl⟩ rfl rfl rfl rfl rfl (by kernel_rfl) Try.func4 (by kernel_rfl)
    (of_decide_eq_true (by kernel_rfl)) (by unfold Func.isWrapper; first | (rw [if_pos (by decide +kernel)]; kernel_rfl) | (rw [if_neg (by decide +kernel)]; exact ⟨rfl, rfl⟩))
    (fun os started H enc _ => diskPlays_lifted os started H enc)
#print axioms diskPlays_holds
end Go.Proofs.Ytdplbgfokoajjaa
