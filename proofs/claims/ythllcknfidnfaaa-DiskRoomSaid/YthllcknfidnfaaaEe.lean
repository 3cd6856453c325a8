/- DiskRoom: all files' bytes are never more than the room, and there are never more than 64 files; what is not done changes no file. Whatever the input: it answers true, and the input reads as it did. -/
import Derived.Test.YthllcknfidnfaaaEb
import Derived.Test.YthllcknfidnfaaaDy
set_option linter.unusedVariables false
set_option linter.unusedSimpArgs false
namespace Go.Proofs.Ythllcknfidnfaaa
open Go Go.ChangeShapes Go.RowKit

set_option maxRecDepth 100000 in
theorem room_lifted (os : Os) (started : os.Started) (H : Type) (enc : TypeId × Value → H) :
    ReturnsInHanded {} Try.checked os 3 .any (Rows.diskRoomSpec.pre6 enc Try.prog Try.f3 Rows.diskRoomRow.domain false) (Rows.diskRoomSpec.post enc Try.prog Try.f3 false true false false) := by
  refine returnsInHanded_of_change (C := Try.checked) Try.own started (by kernel_rfl) Try.func3
    (ChangeSpec.witness6 (enc := enc) (C := Try.checked) false ⟨#[], #[.int .u8 0, .slice none 0 0], []⟩ 8 (by kernel_rfl) (by kernel_rfl) (by kernel_rfl) (by kernel_rfl)) ?_
  intro W base args ds gs before hval0 hW hcnd _
  have hval : ∀ (j : Nat) t v, (#[5, 22] : Array TypeId)[j]? = some t → args[j]? = some v → Value.okWide tE.P W .any base t v := hval0
  have hW' := hW
  obtain ⟨p, q, hA0, hV, rfl, hfz, hnd⟩ := hW
  have hA : DataW.TrodAll enc tE.P W 0 (fun _ => true) true [5, 22] args.toList ds p := hA0
  obtain ⟨v0, v1, d0, d1, p0, p1, rfl, rfl, rfl, h0, h1⟩ := trodAll_two hA
  obtain ⟨rfl, rfl⟩ := trodVars_none hV
  obtain ⟨x0, k0, m0⟩ := arg_V (t := 5) 1 (by decide +kernel) (fun fs => by rw [show tE.P.underlying 5 = some (.int .u8) from tOK.td 5 rfl]; simp) (fun a b => by rw [show tE.P.underlying 5 = some (.int .u8) from tOK.td 5 rfl]; simp) (hval 0 _ v0 rfl rfl) h0
  obtain ⟨x1, k1, m1⟩ := arg_V (t := 22) 4 (by decide +kernel) (fun fs => by rw [show tE.P.underlying 22 = some (.slice 35) from (tOK.td 22 rfl).1]; simp) (fun a b => by rw [show tE.P.underlying 22 = some (.slice 35) from (tOK.td 22 rfl).1]; simp) (hval 1 _ v1 rfl rfl) h1
  obtain ⟨n, rfl⟩ := dat_u8 m0
  obtain ⟨l, rfl, hl, hO⟩ := dat_ops m1
  have hn := n.toNat_lt
  refine (law_calls (VL.two k0 k1) (fun R h => C_room_law (by omega) (by omega) hl hO h)).mono ?_
  rintro e W' ⟨rfl, hb⟩
  exact ⟨_, rfl, law_post hW' hb rfl rfl rfl (by kernel_rfl)⟩

theorem diskRoom_holds : Rows.DiskRoomSaid :=
  OpenClaim.holds_of_wide 3 Try.f3 rfl rfl rfl rfl rfl rfl rfl ⟨rfl, rfl, rfl, rfl, rfl⟩ rfl rfl rfl rfl rfl (by kernel_rfl) Try.func3 (by kernel_rfl)
    (of_decide_eq_true (by kernel_rfl)) (by unfold Func.isWrapper; first | (rw [if_pos (by decide +kernel)]; kernel_rfl) | (rw [if_neg (by decide +kernel)]; exact ⟨rfl, rfl⟩))
    (fun os started H enc _ => room_lifted os started H enc)
#print axioms diskRoom_holds
end Go.Proofs.Ythllcknfidnfaaa
