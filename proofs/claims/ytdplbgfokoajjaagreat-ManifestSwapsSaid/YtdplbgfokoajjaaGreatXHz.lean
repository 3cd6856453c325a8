/- ManifestSwaps: what Swap and Load tell, of any list, behind any calls of a disk, and what the disk has then, are the document's. Whatever the input: it answers true, and the input reads as it did. -/
import Derived.Test.YtdplbgfokoajjaaGreatXq
import Derived.Test.YtdplbgfokoajjaaGreatXj
set_option linter.unusedVariables false
set_option linter.unusedSimpArgs false
namespace Go.Proofs.YtdplbgfokoajjaaGreat
open Go Go.ChangeShapes Go.RowKit

theorem dat_i64w {n : Nat} {x : PV} (h : Dat tE (n + 2) 23 x) : ∃ l : List Int, x = .lit (is l) ∧ l.length ≤ maxLen ∧ ∀ k ∈ l, -9223372036854775808 ≤ k ∧ k ≤ 9223372036854775807 :=
  dat_list (t := 0) (f := fun k => PV.int .i64 k) (P := fun k => -9223372036854775808 ≤ k ∧ k ≤ 9223372036854775807) (h : ∃ xs, x = .lit xs ∧ xs.length ≤ maxLen ∧ ∀ y ∈ xs, Dat tE (n + 1) 2 y) (fun y hy => dat_int (n := n) hy)
set_option maxRecDepth 100000 in
theorem manifestSwaps_lifted (os : Os) (started : os.Started) (H : Type) (enc : TypeId × Value → H) :
    ReturnsInHanded {} Tryz.checked os 3 .any (Rows.manifestSwapsSpec.pre6 enc Tryz.prog Tryz.f3 Rows.manifestSwapsRow.domain false) (Rows.manifestSwapsSpec.post enc Tryz.prog Tryz.f3 false true false false) := by
  refine returnsInHanded_of_change (C := Tryz.checked) Tryz.own started (by kernel_rfl) Tryz.func3
    (ChangeSpec.witness6 (enc := enc) (C := Tryz.checked) false ⟨#[], #[.int .i64 0, .slice none 0 0, .slice none 0 0, .slice none 0 0], []⟩ 8 (by kernel_rfl) (by kernel_rfl) (by kernel_rfl) (by kernel_rfl)) ?_
  intro W base args ds gs before hval0 hW hcnd _
  have hval : ∀ (j : Nat) t v, (#[3, 22, 23, 22] : Array TypeId)[j]? = some t → args[j]? = some v → Value.okWide tE.P W .any base t v := hval0
  have hW' := hW
  obtain ⟨p, q, hA0, hV, rfl, hfz, hnd⟩ := hW
  have hA : DataW.TrodAll enc tE.P W 0 (fun _ => true) true [3, 22, 23, 22] args.toList ds p := hA0
  obtain ⟨v0, v1, v2, v3, d0, d1, d2, d3, p0, p1, p2, p3, rfl, rfl, rfl, h0, h1, h2, h3⟩ := trodAll_four hA
  obtain ⟨rfl, rfl⟩ := trodVars_none hV
  obtain ⟨x0, k0, m0⟩ := arg_V (t := 3) 1 (by decide +kernel) (fun fs => by rw [show tE.P.underlying 3 = some (.int .i64) from tOK.td 3 rfl]; simp) (fun a b => by rw [show tE.P.underlying 3 = some (.int .i64) from tOK.td 3 rfl]; simp) (hval 0 _ v0 rfl rfl) h0
  obtain ⟨x1, k1, m1⟩ := arg_V (t := 22) 5 (by decide +kernel) (fun fs => by rw [show tE.P.underlying 22 = some (.slice 35) from (tOK.td 22 rfl).1]; simp) (fun a b => by rw [show tE.P.underlying 22 = some (.slice 35) from (tOK.td 22 rfl).1]; simp) (hval 1 _ v1 rfl rfl) h1
  obtain ⟨x2, k2, m2⟩ := arg_V (t := 23) 5 (by decide +kernel) (fun fs => by rw [show tE.P.underlying 23 = some (.slice 2) from (tOK.td 23 rfl).1]; simp) (fun a b => by rw [show tE.P.underlying 23 = some (.slice 2) from (tOK.td 23 rfl).1]; simp) (hval 2 _ v2 rfl rfl) h2
  obtain ⟨x3, k3, m3⟩ := arg_V (t := 22) 5 (by decide +kernel) (fun fs => by rw [show tE.P.underlying 22 = some (.slice 35) from (tOK.td 22 rfl).1]; simp) (fun a b => by rw [show tE.P.underlying 22 = some (.slice 35) from (tOK.td 22 rfl).1]; simp) (hval 3 _ v3 rfl rfl) h3
  obtain ⟨n, rfl, _⟩ := dat_int m0
  obtain ⟨l, rfl, hl, hO⟩ := dat_ops m1
  obtain ⟨a, rfl, ha, _⟩ := dat_i64w m2
  obtain ⟨m, rfl, hm, hP⟩ := dat_ops m3
  refine (law_calls (VL.app (xs := [_]) k0 (VL.app (xs := [_]) k1 (VL.two k2 k3))) (fun R h => C_mswaps (Nat.le_trans hl (by decide)) (Nat.le_trans hm (by decide)) hO hP (Nat.le_trans ha (by decide)) (h _))).mono ?_
  rintro e W' ⟨rfl, hb⟩
  exact ⟨_, rfl, law_post hW' hb rfl rfl rfl (by kernel_rfl)⟩

theorem manifestSwaps_holds : Rows.ManifestSwapsSaid :=
  OpenClaim.holds_of_wide 3 Tryz.f3 rfl rfl rfl rfl rfl rfl rfl ⟨rfl, rfl, rfl, rfl, rfl⟩ rfl rfl rfl rfl rfl (by kernel_rfl) Tryz.func3 (by kernel_rfl)
    (of_decide_eq_true (by kernel_rfl)) (by unfold Func.isWrapper; first | (rw [if_pos (by decide +kernel)]; kernel_rfl) | (rw [if_neg (by decide +kernel)]; exact ⟨rfl, rfl⟩))
    (fun os started H enc _ => manifestSwaps_lifted os started H enc)
#print axioms manifestSwaps_holds
end Go.Proofs.YtdplbgfokoajjaaGreat
