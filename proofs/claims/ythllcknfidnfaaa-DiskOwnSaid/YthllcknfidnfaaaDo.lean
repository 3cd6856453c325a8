/- Package disk: a disk anywhere in a store. -/
import Derived.Test.YthllcknfidnfaaaDn
import Derived.Test.YthllcknfidnfaaaDj
set_option linter.unusedVariables false
set_option linter.unusedSimpArgs false
set_option maxRecDepth 4000
namespace Go.Proofs.Ythllcknfidnfaaa
open Go

def dkBj (d : Dk) (j : Nat) : Blk := .cells 54 0 [.agg 54 [i64 d.room, .map j, i64 d.fuse, i64 d.fail]]
def dkM (d : Dk) : Blk := .mp 9 (encFs d.files)
/-- A disk lies in a store: its struct in block i, its files in block j. -/
structure DkAt (σ : Store) (i j : Nat) (d : Dk) : Prop where
  ne : i ≠ j
  st : σ[i]? = some (some (dkBj d j))
  mp : σ[j]? = some (some (dkM d))
def dkPut (σ : Store) (i j : Nat) (d : Dk) : Store := (σ.set i (some (dkBj d j))).set j (some (dkM d))

theorem set_self_of {α : Type} {l : List α} {i : Nat} {x : α} (h : l[i]? = some x) : l.set i x = l := by
  have hl := getElem?_lt h
  rw [List.getElem?_eq_getElem hl, Option.some.injEq] at h
  rw [← h, List.set_getElem_self]
theorem DkAt.put_self {σ : Store} {i j : Nat} {d : Dk} (h : DkAt σ i j d) : dkPut σ i j d = σ := by
  unfold dkPut
  rw [set_self_of h.st, set_self_of h.mp]
theorem DkAt.put {σ : Store} {i j : Nat} {d : Dk} (h : DkAt σ i j d) (d' : Dk) : DkAt (dkPut σ i j d') i j d' := by
  have h1 := getElem?_lt h.st
  have h2 := getElem?_lt h.mp
  refine ⟨h.ne, ?_, ?_⟩
  · unfold dkPut
    rw [List.getElem?_set_ne h.ne.symm, List.getElem?_set_self h1]
  · unfold dkPut
    rw [List.getElem?_set_self (by simpa using h2)]
theorem dkPut_put (σ : Store) {i j : Nat} (hne : i ≠ j) (d d' : Dk) : dkPut (dkPut σ i j d) i j d' = dkPut σ i j d' := by
  unfold dkPut
  rw [List.set_comm _ _ hne.symm, List.set_set, List.set_set]
theorem dkPut_len (σ : Store) (i j : Nat) (d : Dk) : (dkPut σ i j d).length = σ.length := by simp [dkPut]
theorem dkPut_other (σ : Store) {i j k : Nat} (d : Dk) (h1 : i ≠ k) (h2 : j ≠ k) : (dkPut σ i j d)[k]? = σ[k]? := by
  unfold dkPut
  rw [List.getElem?_set_ne h2, List.getElem?_set_ne h1]

theorem ren_encFs (r : Nat → Nat) (l : List (List UInt8 × Fl)) : renBlk r (.mp 9 (encFs l)) = .mp 9 (encFs l) := by
  simp only [renBlk, encFs, List.map_map]
  congr 1
theorem dkS_all (d : Dk) : allStore (fun b => decide (b < 2)) (dkS d) = true := by
  simp [dkS, dkB, allStore, allBlk, allL, allB]
  exact fun a b => encFs_all _ _ (a, b)
section
variable {R : Re → Store → Prop} {σ : Store} {d d' : Dk} {i j f : Nat} {args : List PV} {v : PV}
theorem C_at (h0 : DkAt σ i j d) (hargs : allL (fun b => decide (b < 2)) args = true) (hspec : ∀ R : Re → Store → Prop, R (.ret v) (dkS d') → C tE f args (dkS d) R)
    (hv : ∀ τ, frz τ 6 v = some v) (h : R (.ret v) (dkPut σ i j d')) : C tE f (renL (nth [i, j]) args) σ R := by
  refine C_own (σ0 := dkS d) tOK [i, j] (by simp [h0.ne]) rfl hargs (dkS_all d) (fun k hk => ?_) ?_
  · have hk : k = 0 ∨ k = 1 := by simp at hk; omega
    rcases hk with rfl | rfl
    · simp [nth, renStore, dkS, dkB, renBlk, renL, ren, h0.st, dkBj]
    · simp only [nth, renStore, dkS]
      simp [h0.mp, dkM, ren_encFs]
  · refine hspec _ ?_
    unfold ownRe
    refine ⟨by rw [show (dkS d').take [i, j].length = dkS d' from rfl]; exact dkS_all d', ?_⟩
    simp only [hv]
    have : putAll σ [i, j] (renStore (nth [i, j]) ((dkS d').take [i, j].length)) = dkPut σ i j d' := by
      rw [show (dkS d').take [i, j].length = dkS d' from rfl]
      simp only [dkS, renStore, List.map_cons, List.map_nil, Option.map_some, ren_encFs, putAll, dkPut, dkM]
      simp [renBlk, dkB, renL, ren, nth, dkBj]
    rw [this]; exact h
theorem C_at0 (h0 : DkAt σ i j d) (hargs : allL (fun b => decide (b < 2)) args = true) (hspec : ∀ R : Re → Store → Prop, R (.ret v) (dkS d) → C tE f args (dkS d) R)
    (hv : ∀ τ, frz τ 6 v = some v) (h : R (.ret v) σ) : C tE f (renL (nth [i, j]) args) σ R := C_at h0 hargs hspec hv (by rw [h0.put_self]; exact h)

theorem C_weak {args' : List PV} (hw : ∀ c vs, VL tE c args vs → VL tE c args' vs) (h : C tE f args' σ R) : C tE f args σ R := fun cx vs hn hv => h cx vs hn (hw cx _ hv)
theorem V.nils_lit {c : Cx} {v : Value} (h : V tE c .nils v) : V tE c (.lit []) v := by
  obtain ⟨a, rfl⟩ := h.nils_inv
  exact V_one (.lit0 _ _) (by simp)

theorem C_used_at (h0 : DkAt σ i j d) (hl : used d.files < 1000000000) (h : R (.ret (i64 (used d.files))) σ) : C tE 12 [.ptr i 0 0 []] σ R :=
  C_at0 (args := [.ptr 0 0 0 []]) h0 (by simp [allL, allB]) (fun R h => C_used hl h) (fun τ => rfl) h
end
end Go.Proofs.Ythllcknfidnfaaa
