/- ManifestWhole: however a Swap ends, and whatever a Crash leaves, Load tells the list that was there, or the other one; with OK the other one. Whatever the input: it answers true, and the input reads as it did. -/
import Derived.Test.YtphhcpdkemagiaaXj
set_option linter.unusedVariables false
set_option linter.unusedSimpArgs false
namespace Go.Proofs.Ytphhcpdkemagiaa
open Go Go.ChangeShapes Go.RowKit
theorem dat_i64y {n : Nat} {x : PV} (h : Dat tE (n + 2) 22 x) : ∃ l : List Int, x = .lit (is l) := by
  obtain ⟨l, h1, _, _⟩ := dat_list (t := 0) (f := fun k => PV.int .i64 k) (P := fun k => -9223372036854775808 ≤ k ∧ k ≤ 9223372036854775807) (h : ∃ xs, x = .lit xs ∧ xs.length ≤ maxLen ∧ ∀ y ∈ xs, Dat tE (n + 1) 2 y) (fun y hy => dat_int (n := n) hy)
  exact ⟨l, h1⟩
theorem dat_bool {n : Nat} {x : PV} (h : Dat tE (n + 1) 4 x) : ∃ b, x = .bool b := h
theorem trodAll_6 {H : Type} {enc : TypeId × Value → H} {P : Program} {w : World} {base : Nat} {spare : Nat → Bool} {held : Bool} {t0 t1 t2 t3 t4 t5 : TypeId} {args : Array Value} {ds : List (DataW H)} {ps : List MemPlace} (h : DataW.TrodAll enc P w base spare held [t0, t1, t2, t3, t4, t5] args.toList ds ps) :
    ∃ v0 v1 v2 v3 v4 v5 d0 d1 d2 d3 d4 d5 p0 p1 p2 p3 p4 p5, args = #[v0, v1, v2, v3, v4, v5] ∧ ds = [d0, d1, d2, d3, d4, d5] ∧ ps = p0 ++ (p1 ++ (p2 ++ (p3 ++ (p4 ++ p5)))) ∧ DataW.Trod enc P w base spare held t0 v0 d0 p0 ∧ DataW.Trod enc P w base spare held t1 v1 d1 p1 ∧ DataW.Trod enc P w base spare held t2 v2 d2 p2 ∧ DataW.Trod enc P w base spare held t3 v3 d3 p3 ∧ DataW.Trod enc P w base spare held t4 v4 d4 p4 ∧ DataW.Trod enc P w base spare held t5 v5 d5 p5 := by
  obtain ⟨v0, vs0, d0, e0, p0, q0, hargs, rfl, rfl, h0, r0⟩ := trodAll_cons h
  obtain ⟨v1, vs1, d1, e1, p1, q1, rfl, rfl, rfl, h1, r1⟩ := trodAll_cons r0
  obtain ⟨v2, vs2, d2, e2, p2, q2, rfl, rfl, rfl, h2, r2⟩ := trodAll_cons r1
  obtain ⟨v3, vs3, d3, e3, p3, q3, rfl, rfl, rfl, h3, r3⟩ := trodAll_cons r2
  obtain ⟨v4, vs4, d4, e4, p4, q4, rfl, rfl, rfl, h4, r4⟩ := trodAll_cons r3
  obtain ⟨v5, vs5, d5, e5, p5, q5, rfl, rfl, rfl, h5, r5⟩ := trodAll_cons r4
  obtain ⟨rfl, rfl, rfl⟩ := trodAll_nil r5
  exact ⟨v0, v1, v2, v3, v4, v5, d0, d1, d2, d3, d4, d5, p0, p1, p2, p3, p4, p5, by cases args; simp_all, rfl, by simp, h0, h1, h2, h3, h4, h5⟩

set_option maxRecDepth 100000 in
theorem manifestWhole_lifted (os : Os) (started : os.Started) (H : Type) (enc : TypeId × Value → H) :
    ReturnsInHanded {} Try.checked os 7 .any (Rows.manifestWholeSpec.pre6 enc Try.prog Try.f7 Rows.manifestWholeRow.domain false) (Rows.manifestWholeSpec.post enc Try.prog Try.f7 false true false false) := by
  refine returnsInHanded_of_change (C := Try.checked) Try.own started (by kernel_rfl) Try.func7
    (ChangeSpec.witness6 (enc := enc) (C := Try.checked) false ⟨#[], #[.int .u8 0, .slice none 0 0, .slice none 0 0, .int .u8 0, .bool false, .slice none 0 0], []⟩ 8 (by kernel_rfl) (by kernel_rfl) (by kernel_rfl) (by kernel_rfl)) ?_
  intro W base args ds gs before hval0 hW hcnd _
  have hval : ∀ (j : Nat) t v, (#[5, 22, 22, 5, 4, 44] : Array TypeId)[j]? = some t → args[j]? = some v → Value.okWide tE.P W .any base t v := hval0
  have hW' := hW
  obtain ⟨p, q, hA0, hV, rfl, hfz, hnd⟩ := hW
  have hA : DataW.TrodAll enc tE.P W 0 (fun _ => true) true [5, 22, 22, 5, 4, 44] args.toList ds p := hA0
  obtain ⟨v0, v1, v2, v3, v4, v5, d0, d1, d2, d3, d4, d5, p0, p1, p2, p3, p4, p5, rfl, rfl, rfl, h0, h1, h2, h3, h4, h5⟩ := trodAll_6 hA
  obtain ⟨rfl, rfl⟩ := trodVars_none hV
  obtain ⟨x0, k0, m0⟩ := arg_V (t := 5) 1 (by decide +kernel) (fun fs => by rw [show tE.P.underlying 5 = some (.int .u8) from tOK.td 5 rfl]; simp) (fun a b => by rw [show tE.P.underlying 5 = some (.int .u8) from tOK.td 5 rfl]; simp) (hval 0 _ v0 rfl rfl) h0
  obtain ⟨x1, k1, m1⟩ := arg_V (t := 22) 5 (by decide +kernel) (fun fs => by rw [show tE.P.underlying 22 = some (.slice 2) from (tOK.td 22 rfl).1]; simp) (fun a b => by rw [show tE.P.underlying 22 = some (.slice 2) from (tOK.td 22 rfl).1]; simp) (hval 1 _ v1 rfl rfl) h1
  obtain ⟨x2, k2, m2⟩ := arg_V (t := 22) 5 (by decide +kernel) (fun fs => by rw [show tE.P.underlying 22 = some (.slice 2) from (tOK.td 22 rfl).1]; simp) (fun a b => by rw [show tE.P.underlying 22 = some (.slice 2) from (tOK.td 22 rfl).1]; simp) (hval 2 _ v2 rfl rfl) h2
  obtain ⟨x3, k3, m3⟩ := arg_V (t := 5) 1 (by decide +kernel) (fun fs => by rw [show tE.P.underlying 5 = some (.int .u8) from tOK.td 5 rfl]; simp) (fun a b => by rw [show tE.P.underlying 5 = some (.int .u8) from tOK.td 5 rfl]; simp) (hval 3 _ v3 rfl rfl) h3
  obtain ⟨x4, k4, m4⟩ := arg_V (t := 4) 1 (by decide +kernel) (fun fs => by rw [show tE.P.underlying 4 = some .bool from tOK.td 4 rfl]; simp) (fun a b => by rw [show tE.P.underlying 4 = some .bool from tOK.td 4 rfl]; simp) (hval 4 _ v4 rfl rfl) h4
  obtain ⟨x5, k5, m5⟩ := arg_V (t := 44) 5 (by decide +kernel) (fun fs => by rw [show tE.P.underlying 44 = some (.slice 3) from (tOK.td 44 rfl).1]; simp) (fun a b => by rw [show tE.P.underlying 44 = some (.slice 3) from (tOK.td 44 rfl).1]; simp) (hval 5 _ v5 rfl rfl) h5
  obtain ⟨room, rfl⟩ := dat_u8 m0
  obtain ⟨a, rfl⟩ := dat_i64y m1
  obtain ⟨b, rfl⟩ := dat_i64y m2
  obtain ⟨fuse, rfl⟩ := dat_u8 m3
  obtain ⟨fail, rfl⟩ := dat_bool m4
  obtain ⟨keep, rfl, hkl, hk⟩ := dat_ints m5
  refine (law_calls (VL.app (xs := [_]) k0 (VL.app (xs := [_]) k1 (VL.app (xs := [_]) k2 (VL.app (xs := [_]) k3 (VL.two k4 k5))))) (fun R h => C_mwhole (fun k hk' => (hk k hk').2) hkl h)).mono ?_
  rintro e W' ⟨rfl, hb⟩
  exact ⟨_, rfl, law_post hW' hb rfl rfl rfl (by kernel_rfl)⟩

theorem manifestWhole_holds : Rows.ManifestWholeSaid :=
  OpenClaim.holds_of_wide 7 Try.f7 rfl rfl rfl rfl rfl rfl rfl ⟨rfl, rfl, rfl, rfl, rfl⟩ rfl rfl rfl rfl rfl (by kernel_rfl) Try.func7 (by kernel_rfl)
    (of_decide_eq_true (by kernel_rfl)) (by unfold Func.isWrapper; first | (rw [if_pos (by decide +kernel)]; kernel_rfl) | (rw [if_neg (by decide +kernel)]; exact ⟨rfl, rfl⟩))
    (fun os started H enc _ => manifestWhole_lifted os started H enc)
#print axioms manifestWhole_holds
end Go.Proofs.Ytphhcpdkemagiaa
