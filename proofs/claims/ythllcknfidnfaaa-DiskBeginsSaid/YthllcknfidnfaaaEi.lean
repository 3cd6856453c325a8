/- DiskBegins: behind a Crash each file's bytes are the beginning of what they were, no shorter than what lasts, and as long as that and what is kept; all of it lasts. Whatever the input: it answers true, and the input reads as it did. -/
import Derived.Test.YthllcknfidnfaaaEg
import Derived.Test.YthllcknfidnfaaaDy
set_option linter.unusedVariables false
set_option linter.unusedSimpArgs false
namespace Go.Proofs.Ythllcknfidnfaaa
open Go Go.ChangeShapes Go.RowKit

set_option maxRecDepth 100000 in
theorem begins_lifted (os : Os) (started : os.Started) (H : Type) (enc : TypeId × Value → H) :
    ReturnsInHanded {} Try.checked os 8 .any (Rows.diskBeginsSpec.pre6 enc Try.prog Try.f8 Rows.diskBeginsRow.domain false) (Rows.diskBeginsSpec.post enc Try.prog Try.f8 false true false false) := by
  refine returnsInHanded_of_change (C := Try.checked) Try.own started (by kernel_rfl) Try.func8
    (ChangeSpec.witness6 (enc := enc) (C := Try.checked) false ⟨#[], #[.int .i64 0, .slice none 0 0, .slice none 0 0], []⟩ 8 (by kernel_rfl) (by kernel_rfl) (by kernel_rfl) (by kernel_rfl)) ?_
  intro W base args ds gs before hval0 hW hcnd _
  have hval : ∀ (j : Nat) t v, (#[3, 22, 33] : Array TypeId)[j]? = some t → args[j]? = some v → Value.okWide tE.P W .any base t v := hval0
  have hW' := hW
  obtain ⟨p, q, hA0, hV, rfl, hfz, hnd⟩ := hW
  have hA : DataW.TrodAll enc tE.P W 0 (fun _ => true) true [3, 22, 33] args.toList ds p := hA0
  obtain ⟨v0, v1, v2, d0, d1, d2, p0, p1, p2, rfl, rfl, rfl, h0, h1, h2⟩ := trodAll_three hA
  obtain ⟨rfl, rfl⟩ := trodVars_none hV
  have ui : tE.P.underlying 3 = some (.int .i64) := tOK.td 3 rfl
  have uo : tE.P.underlying 22 = some (.slice 35) := (tOK.td 22 rfl).1
  have us : tE.P.underlying 33 = some (.slice 3) := (tOK.td 33 rfl).1
  obtain ⟨x0, k0, m0⟩ := arg_V (t := 3) 1 (by decide +kernel) (fun fs => by rw [ui]; simp) (fun a b => by rw [ui]; simp) (hval 0 _ v0 rfl rfl) h0
  obtain ⟨x1, k1, m1⟩ := arg_V (t := 22) 4 (by decide +kernel) (fun fs => by rw [uo]; simp) (fun a b => by rw [uo]; simp) (hval 1 _ v1 rfl rfl) h1
  obtain ⟨x2, k2, m2⟩ := arg_V (t := 33) 2 (by decide +kernel) (fun fs => by rw [us]; simp) (fun a b => by rw [us]; simp) (hval 2 _ v2 rfl rfl) h2
  obtain ⟨n, rfl, _⟩ := dat_int m0
  obtain ⟨l, rfl, hl, hO⟩ := dat_ops m1
  obtain ⟨kp, rfl, hk1, hk2⟩ := dat_ints m2
  refine (law_calls (VL.app (xs := [_]) k0 (VL.two k1 k2)) (fun R h => C_begins_law hl hO (fun k hk => (hk2 k hk).2) hk1 h)).mono ?_
  rintro e W' ⟨rfl, hb⟩
  exact ⟨_, rfl, law_post hW' hb rfl rfl rfl (by kernel_rfl)⟩

theorem diskBegins_holds : Rows.DiskBeginsSaid :=
  OpenClaim.holds_of_wide 8 Try.f8 rfl rfl rfl rfl rfl rfl rfl ⟨rfl, rfl, rfl, rfl, rfl⟩ rfl rfl rfl rfl rfl (by kernel_rfl) Try.func8 (by kernel_rfl)
    (of_decide_eq_true (by kernel_rfl)) (by unfold Func.isWrapper; first | (rw [if_pos (by decide +kernel)]; kernel_rfl) | (rw [if_neg (by decide +kernel)]; exact ⟨rfl, rfl⟩))
    (fun os started H enc _ => begins_lifted os started H enc)
#print axioms diskBegins_holds
end Go.Proofs.Ythllcknfidnfaaa
