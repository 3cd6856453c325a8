/- ManifestRight: of any numbers at all Right tells whether they may stand in a manifest. Whatever the input: it answers true, and the input reads as it did. -/
import Derived.Test.YtphhcpdkemagiaaXi
set_option linter.unusedVariables false
set_option linter.unusedSimpArgs false
namespace Go.Proofs.Ytphhcpdkemagiaa
open Go Go.ChangeShapes Go.RowKit

theorem dat_i64s {n : Nat} {x : PV} (h : Dat tE (n + 2) 22 x) : ∃ l : List Int, x = .lit (is l) ∧ l.length ≤ maxLen ∧ ∀ k ∈ l, -9223372036854775808 ≤ k ∧ k ≤ 9223372036854775807 :=
  dat_list (t := 0) (f := fun k => PV.int .i64 k) (P := fun k => -9223372036854775808 ≤ k ∧ k ≤ 9223372036854775807) (h : ∃ xs, x = .lit xs ∧ xs.length ≤ maxLen ∧ ∀ y ∈ xs, Dat tE (n + 1) 2 y) (fun y hy => dat_int (n := n) hy)

set_option maxRecDepth 100000 in
theorem mright_lifted (os : Os) (started : os.Started) (H : Type) (enc : TypeId × Value → H) :
    ReturnsInHanded {} Try.checked os 5 .any (Rows.manifestRightSpec.pre6 enc Try.prog Try.f5 Rows.manifestRightRow.domain false) (Rows.manifestRightSpec.post enc Try.prog Try.f5 false true false false) := by
  refine returnsInHanded_of_change (C := Try.checked) Try.own started (by kernel_rfl) Try.func5
    (ChangeSpec.witness6 (enc := enc) (C := Try.checked) false ⟨#[], #[.slice none 0 0, .int .u8 0], []⟩ 8 (by kernel_rfl) (by kernel_rfl) (by kernel_rfl) (by kernel_rfl)) ?_
  intro W base args ds gs before hval0 hW hcnd _
  have hval : ∀ (j : Nat) t v, (#[22, 5] : Array TypeId)[j]? = some t → args[j]? = some v → Value.okWide tE.P W .any base t v := hval0
  have hW' := hW
  obtain ⟨p, q, hA0, hV, rfl, hfz, hnd⟩ := hW
  have hA : DataW.TrodAll enc tE.P W 0 (fun _ => true) true [22, 5] args.toList ds p := hA0
  obtain ⟨v0, v1, d0, d1, p0, p1, rfl, rfl, rfl, h0, h1⟩ := trodAll_two hA
  obtain ⟨rfl, rfl⟩ := trodVars_none hV
  obtain ⟨x0, k0, m0⟩ := arg_V (t := 22) 4 (by decide +kernel) (fun fs => by rw [show tE.P.underlying 22 = some (.slice 2) from (tOK.td 22 rfl).1]; simp) (fun a b => by rw [show tE.P.underlying 22 = some (.slice 2) from (tOK.td 22 rfl).1]; simp) (hval 0 _ v0 rfl rfl) h0
  obtain ⟨x1, k1, m1⟩ := arg_V (t := 5) 1 (by decide +kernel) (fun fs => by rw [show tE.P.underlying 5 = some (.int .u8) from tOK.td 5 rfl]; simp) (fun a b => by rw [show tE.P.underlying 5 = some (.int .u8) from tOK.td 5 rfl]; simp) (hval 1 _ v1 rfl rfl) h1
  obtain ⟨l, rfl, hl, _⟩ := dat_i64s m0
  obtain ⟨n, rfl⟩ := dat_u8 m1
  have hn := n.toNat_lt
  refine (law_calls (VL.two k0 k1) (fun R h => C_mright h)).mono ?_
  rintro e W' ⟨rfl, hb⟩
  exact ⟨_, rfl, law_post hW' hb rfl rfl rfl (by kernel_rfl)⟩

theorem manifestRight_holds : Rows.ManifestRightSaid :=
  OpenClaim.holds_of_wide 5 Try.f5 rfl rfl rfl rfl rfl rfl rfl ⟨rfl, rfl, rfl, rfl, rfl⟩ rfl rfl rfl rfl rfl (by kernel_rfl) Try.func5 (by kernel_rfl)
    (of_decide_eq_true (by kernel_rfl)) (by unfold Func.isWrapper; first | (rw [if_pos (by decide +kernel)]; kernel_rfl) | (rw [if_neg (by decide +kernel)]; exact ⟨rfl, rfl⟩))
    (fun os started H enc _ => mright_lifted os started H enc)
#print axioms manifestRight_holds
end Go.Proofs.Ytphhcpdkemagiaa
