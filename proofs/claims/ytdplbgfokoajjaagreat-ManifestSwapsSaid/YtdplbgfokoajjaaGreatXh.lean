/- Rows of bytes, for the rules. -/
import Derived.Test.YtdplbgfokoajjaaGreatXg
import Derived.Test.YtdplbgfokoajjaaGreatXe
set_option linter.unusedVariables false
set_option linter.unusedSimpArgs false
set_option maxRecDepth 20000
namespace Go.Proofs.YtdplbgfokoajjaaGreat
open Go
attribute [-simp] List.map_set
theorem fz_list {α : Type} (f : α → PV) {σ : Store} {n : Nat} (h : ∀ a, frz σ n (f a) = some (f a)) (l : List α) : (l.map f).mapM (frz σ n) = some (l.map f) := mapM_same fun x hx => by
 obtain ⟨a, _, rfl⟩ := List.mem_map.1 hx; exact h a
theorem all_fits {α : Type} (f : α → PV) {U : TypeId} (h : ∀ a, fits tE U (f a) = true) (l : List α) : (l.map f).all (fits tE U) = true := by
 rw [List.all_map, List.all_eq_true]; intro a _; exact h a
theorem mem_fits {α : Type} (f : α → PV) {U : TypeId} (h : ∀ a, fits tE U (f a) = true) (l : List α) : (∀ x ∈ l.map f, fits tE U x = true) = True := by
 refine eq_true fun x hx => ?_
 obtain ⟨a, _, rfl⟩ := List.mem_map.1 hx; exact h a
theorem map_take {α β : Type} (f : α → β) (l : List α) : (l.map f).take l.length = l.map f := by rw [← List.length_map (f := f), List.take_length]
@[simp] theorem pureL_map' {α : Type} (f : α → PV) (h : ∀ a, pureB (f a) = true) (l : List α) : pureL (l.map f) = true := pureL_map f h l
@[simp high] theorem tk_u8l (l : List UInt8) (n : Nat) : (u8l l).take n = u8l (l.take n) := by simp [u8l, List.map_take]
@[simp high] theorem dr_u8l (l : List UInt8) (n : Nat) : (u8l l).drop n = u8l (l.drop n) := by simp [u8l, List.map_drop]
@[simp ↓ high] theorem mf_u8l (l : List UInt8) : (∀ x ∈ u8l l, fits tE 5 x = true) = True := mem_fits (fun b : UInt8 => PV.int .u8 b.toNat) (fun a => by simp [fits]) l
@[simp high] theorem pl_u8l (l : List UInt8) : pureL (u8l l) = true := by unfold u8l; exact pureL_map _ (fun _ => rfl) l
@[simp high] theorem ln_u8l (l : List UInt8) : (u8l l).length = l.length := by simp [u8l]
end Go.Proofs.YtdplbgfokoajjaaGreat
