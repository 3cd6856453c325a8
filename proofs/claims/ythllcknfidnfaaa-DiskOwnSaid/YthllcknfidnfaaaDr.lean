/- Package disk as plain functions, and each function's contract. -/
import Derived.Test.YthllcknfidnfaaaDq
import Derived.Test.YthllcknfidnfaaaSaf
set_option linter.unusedVariables false
set_option linter.unusedSimpArgs false
set_option maxRecDepth 4000
namespace Go.Proofs.Ythllcknfidnfaaa
open Go

/-- What a disk may be. -/
structure Inv (d : Dk) : Prop where
  room0 : 0 ≤ d.room
  room1 : d.room ≤ 1048576
  n : d.files.length ≤ 64
  fit : (used d.files : Int) ≤ d.room
  fl : ∀ p ∈ d.files, 0 ≤ p.2.last ∧ p.2.last ≤ p.2.b.length
  nm : ∀ p ∈ d.files, p.1.length ≤ 16
  key : d.files.Pairwise fun p q => p.1 ≠ q.1
  fuse0 : -1 ≤ d.fuse
  fuse1 : d.fuse ≤ 9223372036854775807
  fail0 : 0 ≤ d.fail
  fail1 : d.fail ≤ 9223372036854775807

def sync (d : Dk) (s : ByteArray) : Int × Dk :=
  if d.fuse == 0 then (42, d) else match dget s.data.toList d.files with
  | none => (3, burn d)
  | some f => if 0 < d.fail then (41, { burn d with fail := d.fail - 1 }) else (0, { burn d with files := dput s.data.toList { f with last := f.b.length } d.files })
def delete (d : Dk) (s : ByteArray) : Int × Dk :=
  if d.fuse == 0 then (42, d) else match dget s.data.toList d.files with
  | none => (3, burn d)
  | some f => (0, { burn d with files := ddel s.data.toList d.files })
def rename (d : Dk) (s t : ByteArray) : Int × Dk :=
  if d.fuse == 0 then (42, d) else if named t = false then (1, burn d) else match dget s.data.toList d.files with
  | none => (3, burn d)
  | some f => (0, { burn d with files := dput t.data.toList f (ddel s.data.toList d.files) })
def write (d : Dk) (s : ByteArray) (b : List UInt8) : Int × Dk :=
  if d.fuse == 0 then (42, d) else if named s = false then (1, burn d) else match dget s.data.toList d.files with
  | none => if 64 ≤ d.files.length then (5, burn d) else if d.room - used d.files < b.length then (5, burn d) else (0, { burn d with files := dput s.data.toList ⟨b, 0⟩ d.files })
  | some f => if d.room - used d.files < b.length then (5, burn d) else (0, { burn d with files := dput s.data.toList { f with b := f.b ++ b } d.files })
def setFuse (d : Dk) (n : Int) : Dk := { d with fuse := max n (-1) }
def setFail (d : Dk) (n : Int) : Dk := { d with fail := max n 0 }
def crash (d : Dk) (keep : List Int) : Dk := { d with files := crFs keep 0 (names d) d.files, fuse := -1, fail := 0 }

theorem dget_mem {n : List UInt8} {f : Fl} {l : List (List UInt8 × Fl)} (h : dget n l = some f) : (n, f) ∈ l := by
  unfold dget at h
  simp only [Option.map_eq_some_iff] at h
  obtain ⟨p, hp, rfl⟩ := h
  have h1 := List.find?_some hp
  have h2 := List.mem_of_find?_eq_some hp
  simp only [beq_iff_eq] at h1
  rw [← h1]; exact h2
theorem len_le_used {n : List UInt8} {f : Fl} : ∀ {l : List (List UInt8 × Fl)}, (n, f) ∈ l → f.b.length ≤ used l
  | p :: l, h => by
    simp only [used, List.map_cons, List.sum_cons]
    rcases List.mem_cons.1 h with rfl | h
    · exact Nat.le_add_right _ _
    · have := len_le_used h
      simp only [used] at this; omega
theorem dget_some_of {n : List UInt8} {l : List (List UInt8 × Fl)} (h : n ∈ l.map (·.1)) : ∃ f, dget n l = some f := by
  obtain ⟨p, hp, rfl⟩ := List.mem_map.1 h
  unfold dget
  cases hf : l.find? fun q => q.1 == p.1 with
  | some q => exact ⟨q.2, rfl⟩
  | none => have := List.find?_eq_none.1 hf p hp; simp at this
theorem mem_names {d : Dk} {n : List UInt8} : n ∈ names d ↔ n ∈ d.files.map (·.1) := by
  unfold names
  exact List.mem_mergeSort
theorem names_len (d : Dk) : (names d).length = d.files.length := by simp [names]

namespace Inv
variable {d : Dk}
theorem flOK (h : Inv d) {n : List UInt8} {f : Fl} (hg : dget n d.files = some f) : FlOK f := by
  have hm := dget_mem hg
  have h1 := h.fl _ hm
  have h2 := len_le_used hm
  have h3 := h.fit
  have h4 := h.room1
  exact ⟨h1.1, h1.2, by omega⟩
theorem wfuse (h : Inv d) : IntKind.i64.wrap (d.fuse - 1) = d.fuse - 1 := IntWalk.i64_in _ (by have := h.fuse0; have := h.fuse1; omega)
theorem wfail (h : Inv d) : IntKind.i64.wrap (d.fail - 1) = d.fail - 1 := IntWalk.i64_in _ (by have := h.fail0; have := h.fail1; omega)
theorem usedlt (h : Inv d) : Proofs.Ythllcknfidnfaaa.used d.files < 1000000000 := by have := h.fit; have := h.room1; omega
theorem wroom (h : Inv d) : IntKind.i64.wrap (d.room - Proofs.Ythllcknfidnfaaa.used d.files) = d.room - Proofs.Ythllcknfidnfaaa.used d.files := IntWalk.i64_in _ (by have := h.fit; have := h.room0; have := h.room1; omega)
theorem enclen (h : Inv d) : (encFs d.files).length < 1000000 := by have := h.n; simp only [encFs, List.length_map]; omega
theorem enclen' (h : Inv d) (n : List UInt8) : (encFs (ddel n d.files)).length < 1000000 := by have := h.n; have := ddel_len n d.files; simp only [encFs, List.length_map]; omega
end Inv

section
variable {R : Re → Store → Prop} {d : Dk} {s t : ByteArray} {b : List UInt8} {keep : List Int}
theorem C_sync (hI : Inv d) (hs : s.size ≤ maxLen) (h : R (.ret (i64 (sync d s).1)) (dkS (sync d s).2)) : C tE 27 [.ptr 0 0 0 [], .str s] (dkS d) R := by
  unfold sync at h
  cases hf : d.fuse == 0 with
  | true => rw [hf] at h; exact C_sync_dead hs (by simpa using hf) h
  | false =>
    rw [hf] at h
    cases hg : dget s.data.toList d.files with
    | none => rw [hg] at h; exact C_sync_none hs hf hI.wfuse hg h
    | some f =>
      rw [hg] at h
      by_cases hp : 0 < d.fail
      · simp only [hp, if_true] at h; exact C_sync_fail hs hf hI.wfuse hg (by simpa using hp) hI.wfail h
      · simp only [hp, if_false] at h; exact C_sync_ok hs hI.enclen hf hI.wfuse hg (by simpa using hp) h
theorem C_delete (hI : Inv d) (hs : s.size ≤ maxLen) (h : R (.ret (i64 (delete d s).1)) (dkS (delete d s).2)) : C tE 30 [.ptr 0 0 0 [], .str s] (dkS d) R := by
  unfold delete at h
  cases hf : d.fuse == 0 with
  | true => rw [hf] at h; exact C_delete_dead hs (by simpa using hf) h
  | false =>
    rw [hf] at h
    cases hg : dget s.data.toList d.files with
    | none => rw [hg] at h; exact C_delete_none hs hf hI.wfuse hg h
    | some f => rw [hg] at h; exact C_delete_ok hs hf hI.wfuse hg h
theorem named_size (h : named s = true) : s.size ≤ 16 := by
  unfold named at h
  simp only [Bool.and_eq_true, decide_eq_true_eq] at h
  have := h.1.2; omega
theorem C_rename (hI : Inv d) (hs : s.size ≤ maxLen) (h : R (.ret (i64 (rename d s t).1)) (dkS (rename d s t).2)) : C tE 29 [.ptr 0 0 0 [], .str s, .str t] (dkS d) R := by
  unfold rename at h
  cases hf : d.fuse == 0 with
  | true => rw [hf] at h; exact C_rename_dead (by simpa using hf) h
  | false =>
    rw [hf] at h
    cases hn : named t with
    | false => rw [hn] at h; exact C_rename_arg hf hI.wfuse hn h
    | true =>
      have ht : t.size ≤ maxLen := by have := named_size hn; have : 16 ≤ maxLen := by decide
                                      omega
      rw [hn] at h
      cases hg : dget s.data.toList d.files with
      | none => rw [hg] at h; exact C_rename_none hs hf hI.wfuse hn hg h
      | some f => rw [hg] at h; exact C_rename_ok hs ht (hI.enclen' _) hf hI.wfuse hn hg h
theorem C_write (hI : Inv d) (hs : s.size ≤ maxLen) (h : R (.ret (i64 (write d s b).1)) (dkS (write d s b).2)) : C tE 18 [.ptr 0 0 0 [], .str s, u8s b] (dkS d) R := by
  unfold write at h
  have hu := hI.fit
  have hr := hI.room1
  cases hf : d.fuse == 0 with
  | true => rw [hf] at h; exact C_write_dead (by simpa using hf) h
  | false =>
    rw [hf] at h
    cases hn : named s with
    | false => rw [hn] at h; exact C_write_arg hs hf hI.wfuse hn h
    | true =>
      rw [hn] at h
      cases hg : dget s.data.toList d.files with
      | none =>
        rw [hg] at h
        by_cases hc : 64 ≤ d.files.length
        · simp only [hc, if_true] at h
          exact C_write_full0 hs hf hI.wfuse hn hg (by simpa [encFs] using hc) h
        · simp only [hc, if_false] at h
          have hc' : decide (64 ≤ ((encFs d.files).length : Int)) = false := by rw [decide_eq_false_iff_not]; simp only [encFs, List.length_map]; omega
          by_cases hb : d.room - used d.files < b.length
          · simp only [hb, if_true] at h
            exact C_write_full1 hs hf hI.wfuse hn hg hc' hI.usedlt hI.wroom (by simpa using hb) h
          · simp only [hb, if_false] at h
            exact C_write_ok0 hs hf hI.wfuse hn hg hc' hI.usedlt hI.wroom (by simpa using hb) hI.enclen (by simp; omega) h
      | some f =>
        rw [hg] at h
        have hfl := len_le_used (dget_mem hg)
        by_cases hb : d.room - used d.files < b.length
        · simp only [hb, if_true] at h
          exact C_write_full2 hs hf hI.wfuse hn hg hI.usedlt hI.wroom (by simpa using hb) h
        · simp only [hb, if_false] at h
          exact C_write_ok1 hs hf hI.wfuse hn hg hI.usedlt hI.wroom (by simpa using hb) hI.enclen (by omega) h
theorem C_crash' (hI : Inv d) (hk : ∀ k ∈ keep, k ≤ 9223372036854775807) (hkl : keep.length ≤ 9223372036854775807) (h : R (.ret (.tup [])) (dkS (crash d keep))) : C tE 17 [.ptr 0 0 0 [], .lit (ints keep)] (dkS d) R := by
  have h16 : 16 ≤ maxLen := by decide
  refine C_crash (by have := hI.n; omega) (fun n hn => ?_) (fun n hn => ?_) hk hkl h
  · obtain ⟨p, hp, rfl⟩ := List.mem_map.1 (mem_names.1 hn)
    exact Nat.le_trans (hI.nm p hp) h16
  · obtain ⟨f, hf⟩ := dget_some_of (mem_names.1 hn)
    exact ⟨f, hf, hI.flOK hf⟩
end
end Go.Proofs.Ythllcknfidnfaaa
