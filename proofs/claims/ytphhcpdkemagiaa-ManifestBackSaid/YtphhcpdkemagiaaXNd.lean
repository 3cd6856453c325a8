/- ManifestBack: a right list is got from its bytes; what is got has just the bytes that were read; one byte turned, or one more, is none. Whatever the input: it answers true, and the input reads as it did. -/
import Derived.Test.YtphhcpdkemagiaaXi
set_option linter.unusedVariables false
set_option linter.unusedSimpArgs false
namespace Go.Proofs.Ytphhcpdkemagiaa
open Go Go.ChangeShapes Go.RowKit

theorem dat_i64s' {n : Nat} {x : PV} (h : Dat tE (n + 2) 22 x) : ∃ l : List Int, x = .lit (is l) ∧ l.length ≤ maxLen ∧ ∀ k ∈ l, -9223372036854775808 ≤ k ∧ k ≤ 9223372036854775807 :=
  dat_list (t := 0) (f := fun k => PV.int .i64 k) (P := fun k => -9223372036854775808 ≤ k ∧ k ≤ 9223372036854775807) (h : ∃ xs, x = .lit xs ∧ xs.length ≤ maxLen ∧ ∀ y ∈ xs, Dat tE (n + 1) 2 y) (fun y hy => dat_int (n := n) hy)
theorem dat_u16 {n : Nat} {x : PV} (h : Dat tE (n + 1) 32 x) : ∃ k : Nat, x = .int .u16 k ∧ k < 65536 := by
  obtain ⟨k, rfl, hw⟩ := (h : ∃ i, x = .int .u16 i ∧ (Lit.int .u16 i).wf = true)
  simp [Lit.wf, IntKind.has, IntKind.min, IntKind.max, IntKind.signed, IntKind.bits] at hw
  exact ⟨k.toNat, by congr 1; omega, by omega⟩

set_option maxRecDepth 100000 in
theorem mback_lifted (os : Os) (started : os.Started) (H : Type) (enc : TypeId × Value → H) :
    ReturnsInHanded {} Try.checked os 4 .any (Rows.manifestBackSpec.pre6 enc Try.prog Try.f4 Rows.manifestBackRow.domain false) (Rows.manifestBackSpec.post enc Try.prog Try.f4 false true false false) := by
  refine returnsInHanded_of_change (C := Try.checked) Try.own started (by kernel_rfl) Try.func4
    (ChangeSpec.witness6 (enc := enc) (C := Try.checked) false ⟨#[], #[.slice none 0 0, .slice none 0 0, .int .u16 0, .int .u8 0], []⟩ 8 (by kernel_rfl) (by kernel_rfl) (by kernel_rfl) (by kernel_rfl)) ?_
  intro W base args ds gs before hval0 hW hcnd _
  have hval : ∀ (j : Nat) t v, (#[22, 23, 32, 5] : Array TypeId)[j]? = some t → args[j]? = some v → Value.okWide tE.P W .any base t v := hval0
  have hW' := hW
  obtain ⟨p, q, hA0, hV, rfl, hfz, hnd⟩ := hW
  have hA : DataW.TrodAll enc tE.P W 0 (fun _ => true) true [22, 23, 32, 5] args.toList ds p := hA0
  obtain ⟨v0, v1, v2, v3, d0, d1, d2, d3, p0, p1, p2, p3, rfl, rfl, rfl, h0, h1, h2, h3⟩ := trodAll_four hA
  obtain ⟨rfl, rfl⟩ := trodVars_none hV
  obtain ⟨x0, k0, m0⟩ := arg_V (t := 22) 4 (by decide +kernel) (fun fs => by rw [show tE.P.underlying 22 = some (.slice 2) from (tOK.td 22 rfl).1]; simp) (fun a b => by rw [show tE.P.underlying 22 = some (.slice 2) from (tOK.td 22 rfl).1]; simp) (hval 0 _ v0 rfl rfl) h0
  obtain ⟨x1, k1, m1⟩ := arg_V (t := 23) 4 (by decide +kernel) (fun fs => by rw [show tE.P.underlying 23 = some (.slice 5) from (tOK.td 23 rfl).1]; simp) (fun a b => by rw [show tE.P.underlying 23 = some (.slice 5) from (tOK.td 23 rfl).1]; simp) (hval 1 _ v1 rfl rfl) h1
  obtain ⟨x2, k2, m2⟩ := arg_V (t := 32) 1 (by decide +kernel) (fun fs => by rw [show tE.P.underlying 32 = some (.int .u16) from tOK.td 32 rfl]; simp) (fun a b => by rw [show tE.P.underlying 32 = some (.int .u16) from tOK.td 32 rfl]; simp) (hval 2 _ v2 rfl rfl) h2
  obtain ⟨x3, k3, m3⟩ := arg_V (t := 5) 1 (by decide +kernel) (fun fs => by rw [show tE.P.underlying 5 = some (.int .u8) from tOK.td 5 rfl]; simp) (fun a b => by rw [show tE.P.underlying 5 = some (.int .u8) from tOK.td 5 rfl]; simp) (hval 3 _ v3 rfl rfl) h3
  obtain ⟨l, rfl, hl, _⟩ := dat_i64s' m0
  obtain ⟨b, rfl, hb⟩ := dat_bytes m1
  obtain ⟨n, rfl, hn⟩ := dat_u16 m2
  obtain ⟨by0, rfl⟩ := dat_u8 m3
  refine (law_calls (VL.app (xs := [_]) k0 (VL.app (xs := [_]) k1 (VL.two k2 k3))) (fun R h => C_mback hn h)).mono ?_
  rintro e W' ⟨rfl, hb⟩
  exact ⟨_, rfl, law_post hW' hb rfl rfl rfl (by kernel_rfl)⟩

theorem manifestBack_holds : Rows.ManifestBackSaid :=
  OpenClaim.holds_of_wide 4 Try.f4 rfl rfl rfl rfl rfl rfl rfl ⟨rfl, rfl, rfl, rfl, rfl⟩ rfl rfl rfl rfl rfl (by kernel_rfl) Try.func4 (by kernel_rfl)
    (of_decide_eq_true (by kernel_rfl)) (by unfold Func.isWrapper; first | (rw [if_pos (by decide +kernel)]; kernel_rfl) | (rw [if_neg (by decide +kernel)]; exact ⟨rfl, rfl⟩))
    (fun os started H enc _ => mback_lifted os started H enc)
#print axioms manifestBack_holds
end Go.Proofs.Ytphhcpdkemagiaa
