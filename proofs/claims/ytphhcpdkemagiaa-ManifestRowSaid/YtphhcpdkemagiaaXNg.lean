/- ManifestRow: behind Swaps, one by one, that are done, the last list is there, and no other file. Whatever the input: it answers true, and the input reads as it did. -/
import Derived.Test.YtphhcpdkemagiaaXj
set_option linter.unusedVariables false
set_option linter.unusedSimpArgs false
namespace Go.Proofs.Ytphhcpdkemagiaa
open Go Go.ChangeShapes Go.RowKit
theorem dat_i64z {n : Nat} {x : PV} (h : Dat tE (n + 2) 22 x) : ∃ l : List Int, x = .lit (is l) ∧ True := by
  obtain ⟨l, h1, _, _⟩ := dat_list (t := 0) (f := fun k => PV.int .i64 k) (P := fun k => -9223372036854775808 ≤ k ∧ k ≤ 9223372036854775807) (h : ∃ xs, x = .lit xs ∧ xs.length ≤ maxLen ∧ ∀ y ∈ xs, Dat tE (n + 1) 2 y) (fun y hy => dat_int (n := n) hy)
  exact ⟨l, h1, trivial⟩
theorem dat_i64ss {n : Nat} {x : PV} (h : Dat tE (n + 3) 35 x) : ∃ ls : List (List Int), x = .lit (iss ls) := by
  obtain ⟨l, h1, _, _⟩ := dat_list (t := 0) (f := fun l => PV.lit (is l)) (P := fun _ => True) (h : ∃ xs, x = .lit xs ∧ xs.length ≤ maxLen ∧ ∀ y ∈ xs, Dat tE (n + 2) 22 y) (fun y hy => dat_i64z hy)
  exact ⟨l, h1⟩

set_option maxRecDepth 100000 in
theorem manifestRow_lifted (os : Os) (started : os.Started) (H : Type) (enc : TypeId × Value → H) :
    ReturnsInHanded {} Try.checked os 6 .any (Rows.manifestRowSpec.pre6 enc Try.prog Try.f6 Rows.manifestRowRow.domain false) (Rows.manifestRowSpec.post enc Try.prog Try.f6 false true false false) := by
  refine returnsInHanded_of_change (C := Try.checked) Try.own started (by kernel_rfl) Try.func6
    (ChangeSpec.witness6 (enc := enc) (C := Try.checked) false ⟨#[], #[.slice none 0 0], []⟩ 8 (by kernel_rfl) (by kernel_rfl) (by kernel_rfl) (by kernel_rfl)) ?_
  intro W base args ds gs before hval0 hW hcnd _
  have hval : ∀ (j : Nat) t v, (#[35] : Array TypeId)[j]? = some t → args[j]? = some v → Value.okWide tE.P W .any base t v := hval0
  have hW' := hW
  obtain ⟨p, q, hA0, hV, rfl, hfz, hnd⟩ := hW
  have hA : DataW.TrodAll enc tE.P W 0 (fun _ => true) true [35] args.toList ds p := hA0
  obtain ⟨v0, d0, rfl, rfl, h0⟩ := trodAll_one hA
  obtain ⟨rfl, rfl⟩ := trodVars_none hV
  obtain ⟨x0, k0, m0⟩ := arg_V (t := 35) 5 (by decide +kernel) (fun fs => by rw [show tE.P.underlying 35 = some (.slice 22) from (tOK.td 35 rfl).1]; simp) (fun a b => by rw [show tE.P.underlying 35 = some (.slice 22) from (tOK.td 35 rfl).1]; simp) (hval 0 _ v0 rfl rfl) h0
  obtain ⟨ls, rfl⟩ := dat_i64ss m0
  refine (law_calls (k0) (fun R h => C_mrow h)).mono ?_
  rintro e W' ⟨rfl, hb⟩
  exact ⟨_, rfl, law_post hW' hb rfl rfl rfl (by kernel_rfl)⟩

theorem manifestRow_holds : Rows.ManifestRowSaid :=
  OpenClaim.holds_of_wide 6 Try.f6 rfl rfl rfl rfl rfl rfl rfl ⟨rfl, rfl, rfl, rfl, rfl⟩ rfl rfl rfl rfl rfl (by kernel_rfl) Try.func6 (by kernel_rfl)
    (of_decide_eq_true (by kernel_rfl)) (by unfold Func.isWrapper; first | (rw [if_pos (by decide +kernel)]; kernel_rfl) | (rw [if_neg (by decide +kernel)]; exact ⟨rfl, rfl⟩))
    (fun os started H enc _ => manifestRow_lifted os started H enc)
#print axioms manifestRow_holds
end Go.Proofs.Ytphhcpdkemagiaa
