/- ManifestTells: whether any list is right, its bytes, and the list of any bytes, are the same as those of the document. Whatever the input: it answers true, and the input reads as it did. -/
import Derived.Test.YtdplbgfokoajjaaXj
set_option linter.unusedVariables false
set_option linter.unusedSimpArgs false
namespace Go.Proofs.Ytdplbgfokoajjaa
open Go Go.ChangeShapes Go.RowKit
theorem dat_i64s' {n : Nat} {x : PV} (h : Dat tE (n + 2) 22 x) : ∃ l : List Int, x = .lit (is l) ∧ l.length ≤ maxLen ∧ ∀ k ∈ l, -9223372036854775808 ≤ k ∧ k ≤ 9223372036854775807 :=
  dat_list (t := 0) (f := fun k => PV.int .i64 k) (P := fun k => -9223372036854775808 ≤ k ∧ k ≤ 9223372036854775807) (h : ∃ xs, x = .lit xs ∧ xs.length ≤ maxLen ∧ ∀ y ∈ xs, Dat tE (n + 1) 2 y) (fun y hy => dat_int (n := n) hy)

set_option maxRecDepth 100000 in
theorem manifestTells_lifted (os : Os) (started : os.Started) (H : Type) (enc : TypeId × Value → H) :
    ReturnsInHanded {} Try.checked os 3 .any (Rows.manifestTellsSpec.pre6 enc Try.prog Try.f3 Rows.manifestTellsRow.domain false) (Rows.manifestTellsSpec.post enc Try.prog Try.f3 false true false false) := by
  refine returnsInHanded_of_change (C := Try.checked) Try.own started (by kernel_rfl) Try.func3
    (ChangeSpec.witness6 (enc := enc) (C := Try.checked) false ⟨#[], #[.slice none 0 0, .slice none 0 0], []⟩ 8 (by kernel_rfl) (by kernel_rfl) (by kernel_rfl) (by kernel_rfl)) ?_
  intro W base args ds gs before hval0 hW hcnd _
  have hval : ∀ (j : Nat) t v, (#[22, 23] : Array TypeId)[j]? = some t → args[j]? = some v → Value.okWide tE.P W .any base t v := hval0
  have hW' := hW
  obtain ⟨p, q, hA0, hV, rfl, hfz, hnd⟩ := hW
  have hA : DataW.TrodAll enc tE.P W 0 (fun _ => true) true [22, 23] args.toList ds p := hA0
  obtain ⟨v0, v1, d0, d1, p0, p1, rfl, rfl, rfl, h0, h1⟩ := trodAll_two hA
  obtain ⟨rfl, rfl⟩ := trodVars_none hV
  obtain ⟨x0, k0, m0⟩ := arg_V (t := 22) 5 (by decide +kernel) (fun fs => by rw [show tE.P.underlying 22 = some (.slice 2) from (tOK.td 22 rfl).1]; simp) (fun a b => by rw [show tE.P.underlying 22 = some (.slice 2) from (tOK.td 22 rfl).1]; simp) (hval 0 _ v0 rfl rfl) h0
  obtain ⟨x1, k1, m1⟩ := arg_V (t := 23) 5 (by decide +kernel) (fun fs => by rw [show tE.P.underlying 23 = some (.slice 5) from (tOK.td 23 rfl).1]; simp) (fun a b => by rw [show tE.P.underlying 23 = some (.slice 5) from (tOK.td 23 rfl).1]; simp) (hval 1 _ v1 rfl rfl) h1
  obtain ⟨l, rfl, hl, _⟩ := dat_i64s' m0
  obtain ⟨b, rfl, hb⟩ := dat_bytes m1
  refine (law_calls (VL.two k0 k1) (fun R h => C_mtells (Nat.le_trans hl (by decide)) (Nat.le_trans hb (by decide)) (h _))).mono ?_
  rintro e W' ⟨rfl, hb⟩
  exact ⟨_, rfl, law_post hW' hb rfl rfl rfl (by kernel_rfl)⟩

theorem manifestTells_holds : Rows.ManifestTellsSaid :=
  OpenClaim.holds_of_wide 3 Try.f3 rfl rfl rfl rfl rfl rfl rfl ⟨rfl, rfl, rfl, rfl, rfl⟩ rfl rfl rfl rfl rfl (by kernel_rfl) Try.func3 (by kernel_rfl)
    (of_decide_eq_true (by kernel_rfl)) (by unfold Func.isWrapper; first | (rw [if_pos (by decide +kernel)]; kernel_rfl) | (rw [if_neg (by decide +kernel)]; exact ⟨rfl, rfl⟩))
    (fun os started H enc _ => manifestTells_lifted os started H enc)
#print axioms manifestTells_holds
end Go.Proofs.Ytdplbgfokoajjaa
