/- What a crash leaves of each file. -/
import Derived.Test.YthllcknfidnfaaaEb
set_option linter.unusedVariables false
set_option linter.unusedSimpArgs false
namespace Go.Proofs.Ythllcknfidnfaaa
open Go

theorem bytes_size (b : ByteArray) : b.size = b.data.toList.length := (Array.length_toList).symm
theorem bytes_loop (b : ByteArray) : ∀ (n i : Nat) (r : List UInt8), b.size - i = n → ByteArray.toList.loop b i r = r.reverse ++ b.data.toList.drop i := by
  intro n
  have hsz := bytes_size b
  induction n with
  | zero =>
    intro i r h
    unfold ByteArray.toList.loop
    have h' : ¬ i < b.size := by omega
    rw [if_neg h', List.drop_eq_nil_iff.2 (by omega)]
    simp
  | succ n ih =>
    intro i r h
    unfold ByteArray.toList.loop
    have h' : i < b.size := by omega
    rw [if_pos h', ih (i + 1) _ (by omega)]
    have hl : i < b.data.toList.length := by omega
    rw [List.drop_eq_getElem_cons hl]
    have : b.get! i = b.data.toList[i] := by
      have hl' : i < b.data.size := by rw [← Array.length_toList]; exact hl
      show b.data[i]! = _
      rw [getElem!_pos b.data i hl', Array.getElem_toList]
    simp [this]
theorem bytes_toList (b : ByteArray) : b.toList = b.data.toList := by
  unfold ByteArray.toList
  rw [bytes_loop b _ 0 [] rfl]; simp

theorem crFs_not (keep : List Int) {m : List UInt8} : ∀ (ns : List (List UInt8)) (i : Nat) (fs : List (List UInt8 × Fl)), m ∉ ns → dget m (crFs keep i ns fs) = dget m fs
  | [], i, fs, _ => rfl
  | n :: ns, i, fs, h => by
    simp only [List.mem_cons, not_or] at h
    simp only [crFs]
    rw [crFs_not keep ns (i + 1) _ h.2]
    split
    · rw [dget_dput, if_neg h.1]
    · rfl
theorem crFs_get (keep : List Int) {m : List UInt8} : ∀ (ns : List (List UInt8)) (i : Nat) (fs : List (List UInt8 × Fl)) (j : Nat), ns.Nodup → ns[j]? = some m → dget m (crFs keep i ns fs) = (dget m fs).map fun f => crF f keep[i + j]?
  | [], i, fs, j, _, h => by simp at h
  | n :: ns, i, fs, j, hnd, h => by
    obtain ⟨h1, h2⟩ := List.nodup_cons.1 hnd
    simp only [crFs]
    cases j with
    | zero =>
      simp only [List.getElem?_cons_zero, Option.some.injEq] at h; subst h
      rw [crFs_not keep ns (i + 1) _ h1]
      cases hg : dget n fs with
      | none => simp [hg]
      | some f => simp [dget_dput]
    | succ j =>
      simp only [List.getElem?_cons_succ] at h
      have hne : m ≠ n := fun e => h1 (e ▸ List.mem_of_getElem? h)
      rw [crFs_get keep ns (i + 1) _ j h2 h, Nat.add_assoc, Nat.add_comm 1 j]
      congr 1
      split
      · rw [dget_dput, if_neg hne]
      · rfl
theorem names_nodup {d : Dk} (h : Keys d.files) : (names d).Nodup := by
  unfold names
  rw [(List.mergeSort_perm _ _).nodup_iff]
  exact List.pairwise_map.2 h
theorem keys_perm {n : List UInt8} {f g : Fl} {l : List (List UInt8 × Fl)} (hk : Keys l) (h : dget n l = some f) : ((dput n g l).map (·.1)).Perm (l.map (·.1)) := by
  have h1 : ∀ (x : List UInt8 × Fl) (l : List (List UInt8 × Fl)), (dins x l).Perm (x :: l) := fun x l => by
    induction l with
    | nil => exact .refl _
    | cons y l ih =>
      simp only [dins]
      split
      · exact .refl _
      · exact (ih.cons y).trans (.swap x y l)
  have h2 : (l.map (·.1)).Perm (n :: (ddel n l).map (·.1)) := by
    clear h1
    induction l with
    | nil => simp [dget] at h
    | cons y l ih =>
      obtain ⟨k1, k2⟩ := List.pairwise_cons.1 hk
      by_cases e : y.1 = n
      · have hd : ddel n (y :: l) = l := by
          have hb : (y.1 == n) = true := by simp [e]
          unfold ddel
          simp only [List.filter_cons, hb, Bool.not_true, Bool.false_eq_true, if_false]
          exact List.filter_eq_self.2 fun p hp => by have := k1 p hp; rw [e] at this; simpa using Ne.symm this
        rw [hd]; simp [e]
      · have hb : (y.1 == n) = false := by simp [e]
        have hg : dget n l = some f := by simpa [dget, List.find?_cons, hb] using h
        have hd : ddel n (y :: l) = y :: ddel n l := by unfold ddel; simp [List.filter_cons, hb]
        rw [hd]
        simp only [List.map_cons]
        exact ((ih k2 hg).cons y.1).trans (.swap n y.1 _)
  exact ((h1 (n, g) (ddel n l)).map (fun p : List UInt8 × Fl => p.1)).trans h2.symm
theorem crFs_names (keep : List Int) : ∀ (ns : List (List UInt8)) (i : Nat) (fs : List (List UInt8 × Fl)), Keys fs → ((crFs keep i ns fs).map (·.1)).Perm (fs.map (·.1))
  | [], i, fs, _ => .refl _
  | n :: ns, i, fs, hk => by
    simp only [crFs]
    cases hg : dget n fs with
    | none => exact crFs_names keep ns (i + 1) fs hk
    | some f => exact (crFs_names keep ns (i + 1) _ (keys_dput hk)).trans (keys_perm hk hg)
theorem crash_names {d : Dk} {keep : List Int} (h : Keys d.files) : names (crash d keep) = names d := by
  unfold names
  exact mergeSort_of_perm (crFs_names keep (names d) 0 d.files h)
theorem crash_get {d : Dk} {keep : List Int} (h : Keys d.files) {n : List UInt8} {j : Nat} (hj : (names d)[j]? = some n) : dget n (crash d keep).files = (dget n d.files).map fun f => crF f keep[j]? := by
  have := crFs_get keep (names d) 0 d.files j (names_nodup h) hj
  rw [Nat.zero_add] at this
  exact this
theorem crash_has {d : Dk} {keep : List Int} (h : Keys d.files) (n : List UInt8) : ∃ k, dget n (crash d keep).files = (dget n d.files).map fun f => crF f k := by
  by_cases hn : n ∈ names d
  · obtain ⟨j, hj⟩ := List.mem_iff_getElem?.1 hn
    exact ⟨_, crash_get h hj⟩
  · refine ⟨none, ?_⟩
    have h1 : dget n (crash d keep).files = dget n d.files := crFs_not keep (names d) 0 d.files hn
    have h2 : dget n d.files = none := by
      cases hg : dget n d.files with
      | none => rfl
      | some f => exact absurd (mem_names.2 (List.mem_map.2 ⟨(n, f), dget_mem hg, rfl⟩)) hn
    rw [h1, h2]; rfl

/-- What is sure to last: the beginning of a file's bytes. -/
def Sure (nm last : List UInt8) (d : Dk) : Prop := ∃ f, dget nm d.files = some f ∧ last <+: f.b ∧ (last.length : Int) ≤ f.last
theorem Sure.of_files {nm last : List UInt8} {d d' : Dk} (h : Sure nm last d) (hf : d'.files = d.files) : Sure nm last d' := by
  unfold Sure at h ⊢; rw [hf]; exact h
theorem Sure.put {nm last n : List UInt8} {d d' : Dk} {g : Fl} (h : Sure nm last d) (hf : d'.files = dput n g d.files) (hg : n = nm → ∀ f, dget nm d.files = some f → last <+: f.b → (last.length : Int) ≤ f.last → last <+: g.b ∧ (last.length : Int) ≤ g.last) : Sure nm last d' := by
  obtain ⟨f, h1, h2, h3⟩ := h
  unfold Sure
  rw [hf, dget_dput]
  by_cases e : nm = n
  · rw [if_pos e]
    obtain ⟨k1, k2⟩ := hg e.symm f h1 h2 h3
    exact ⟨g, rfl, k1, k2⟩
  · rw [if_neg e]
    exact ⟨f, h1, h2, h3⟩
theorem Sure.sync {nm last : List UInt8} {d : Dk} {s : ByteArray} (hI : Inv d) (h : Sure nm last d) : Sure nm last (sync d s).2 := by
  unfold Proofs.Ythllcknfidnfaaa.sync
  split
  · exact h
  · split
    · exact h.of_files rfl
    · rename_i f hg
      split
      · exact h.of_files rfl
      · refine h.put (g := { f with last := f.b.length }) rfl fun e f' h1 h2 h3 => ?_
        rw [← e, hg, Option.some.injEq] at h1; subst h1
        exact ⟨h2, by have := h2.length_le; simp; omega⟩
theorem Sure.delete {nm last : List UInt8} {d : Dk} {s : ByteArray} (h : Sure nm last d) (hn : ((delete d s).1 == 0) = true → s.data.toList ≠ nm) : Sure nm last (delete d s).2 := by
  unfold Proofs.Ythllcknfidnfaaa.delete at hn ⊢
  split
  · exact h
  · rename_i hf
    rw [if_neg hf] at hn
    split
    · exact h.of_files rfl
    · rename_i f hg
      rw [hg] at hn
      have hne := hn rfl
      obtain ⟨g, h1, h2, h3⟩ := h
      exact ⟨g, by show dget nm (ddel s.data.toList d.files) = some g; rw [dget_ddel, if_neg (Ne.symm hne)]; exact h1, h2, h3⟩
theorem Sure.rename {nm last : List UInt8} {d : Dk} {s t : ByteArray} (h : Sure nm last d) (hn : ((rename d s t).1 == 0) = true → s.data.toList ≠ nm ∧ t.data.toList ≠ nm) : Sure nm last (rename d s t).2 := by
  unfold Proofs.Ythllcknfidnfaaa.rename at hn ⊢
  split
  · exact h
  · rename_i hf
    rw [if_neg hf] at hn
    split
    · exact h.of_files rfl
    · rename_i hnm
      rw [if_neg hnm] at hn
      split
      · exact h.of_files rfl
      · rename_i f hg
        rw [hg] at hn
        obtain ⟨e1, e2⟩ := hn rfl
        obtain ⟨g, h1, h2, h3⟩ := h
        exact ⟨g, by show dget nm (dput t.data.toList f (ddel s.data.toList d.files)) = some g; rw [dget_dput, if_neg (Ne.symm e2), dget_ddel, if_neg (Ne.symm e1)]; exact h1, h2, h3⟩
theorem Sure.write {nm last : List UInt8} {d : Dk} {s : ByteArray} {b : List UInt8} (h : Sure nm last d) : Sure nm last (write d s b).2 := by
  unfold Proofs.Ythllcknfidnfaaa.write
  split
  · exact h
  · split
    · exact h.of_files rfl
    · split
      · rename_i hg
        split
        · exact h.of_files rfl
        · split
          · exact h.of_files rfl
          · refine h.put (g := ⟨b, 0⟩) rfl fun e f' h1 h2 h3 => ?_
            rw [← e, hg] at h1; simp at h1
      · rename_i f hg
        split
        · exact h.of_files rfl
        · refine h.put (g := { f with b := f.b ++ b }) rfl fun e f' h1 h2 h3 => ?_
          rw [← e, hg, Option.some.injEq] at h1; subst h1
          exact ⟨h2.trans (List.prefix_append _ _), h3⟩
theorem Sure.crash {nm last : List UInt8} {d : Dk} {keep : List Int} (hI : Inv d) (h : Sure nm last d) : Sure nm last (crash d keep) := by
  obtain ⟨f, h1, h2, h3⟩ := h
  obtain ⟨k, hk⟩ := crash_has (keep := keep) hI.key nm
  rw [h1] at hk
  have hF := hI.flOK h1
  have hlo := hF.lo
  have hhi := hF.hi
  refine ⟨crF f k, hk, ?_, ?_⟩
  · unfold crF
    split
    · exact List.prefix_take_iff.2 ⟨h2, by omega⟩
    · exact List.prefix_take_iff.2 ⟨h2, by omega⟩
  · unfold crF
    split
    · show (last.length : Int) ≤ f.last + min (max _ 0) (f.b.length - f.last); omega
    · exact h3
/-- Is a name given away, or a file deleted? -/
def lost (nm : List UInt8) (o : OpV) (e : Int) : Bool :=
  (o.what == 5 && e == 0 && (o.name.data.toList == nm || o.to.data.toList == nm)) || (o.what == 6 && e == 0 && o.name.data.toList == nm)
theorem Sure.doOp {nm last : List UInt8} {d : Dk} {o : OpV} (hI : Inv d) (h : Sure nm last d) (hl : lost nm o (doOp d o).1 = false) : Sure nm last (doOp d o).2 := by
  unfold lost at hl
  unfold Proofs.Ythllcknfidnfaaa.doOp at hl ⊢
  split
  · exact h.sync hI
  rename_i c; rw [if_neg c] at hl; clear c
  split
  · rename_i c
    rw [if_pos c] at hl
    refine h.rename fun he => ?_
    simp only [c, he, Bool.true_and, Bool.or_eq_false_iff, beq_eq_false_iff_ne] at hl
    exact hl.1
  rename_i c; rw [if_neg c] at hl; clear c
  split
  · rename_i c
    rw [if_pos c] at hl
    refine h.delete fun he => ?_
    simp only [c, he, Bool.true_and, Bool.or_eq_false_iff, beq_eq_false_iff_ne] at hl
    exact hl.2
  split
  · exact h.of_files rfl
  split
  · exact h.of_files rfl
  split
  · exact h.crash hI
  exact h.write
end Go.Proofs.Ythllcknfidnfaaa
