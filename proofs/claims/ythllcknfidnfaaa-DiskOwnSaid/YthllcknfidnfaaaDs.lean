/- What the calls of a disk keep. -/
import Derived.Test.YthllcknfidnfaaaDr
set_option linter.unusedVariables false
set_option linter.unusedSimpArgs false
namespace Go.Proofs.Ythllcknfidnfaaa
open Go

theorem mem_dins {x p : List UInt8 × Fl} : ∀ {l}, p ∈ dins x l ↔ p = x ∨ p ∈ l
  | [] => by simp [dins]
  | y :: l => by
    simp only [dins]
    split
    · simp
    · simp only [List.mem_cons, mem_dins (l := l)]
      constructor
      · rintro (h | h | h) <;> simp [h]
      · rintro (h | h | h) <;> simp [h]
theorem mem_ddel {n : List UInt8} {p : List UInt8 × Fl} {l : List (List UInt8 × Fl)} : p ∈ ddel n l ↔ p ∈ l ∧ p.1 ≠ n := by simp [ddel]
theorem mem_dput {n : List UInt8} {f : Fl} {p : List UInt8 × Fl} {l : List (List UInt8 × Fl)} : p ∈ dput n f l ↔ p = (n, f) ∨ (p ∈ l ∧ p.1 ≠ n) := by
  unfold dput
  rw [mem_dins, mem_ddel]
abbrev Keys (l : List (List UInt8 × Fl)) : Prop := l.Pairwise fun p q => p.1 ≠ q.1
theorem keys_dins {x : List UInt8 × Fl} : ∀ {l}, (∀ p ∈ l, p.1 ≠ x.1) → Keys l → Keys (dins x l)
  | [], _, _ => by simp [dins]
  | y :: l, h, hk => by
    obtain ⟨h1, h2⟩ := List.pairwise_cons.1 hk
    simp only [dins]
    split
    · exact List.pairwise_cons.2 ⟨fun p hp => (h p hp).symm, hk⟩
    · refine List.pairwise_cons.2 ⟨fun p hp => ?_, keys_dins (fun p hp => h p (by simp [hp])) h2⟩
      rcases mem_dins.1 hp with rfl | hp
      · exact h y (by simp)
      · exact h1 p hp
theorem keys_ddel {n : List UInt8} {l : List (List UInt8 × Fl)} (h : Keys l) : Keys (ddel n l) := h.filter _
theorem keys_dput {n : List UInt8} {f : Fl} {l : List (List UInt8 × Fl)} (h : Keys l) : Keys (dput n f l) := keys_dins (fun p hp => (mem_ddel.1 hp).2) (keys_ddel h)
theorem used_dins (x : List UInt8 × Fl) : ∀ l, used (dins x l) = used l + x.2.b.length
  | [] => by simp [dins, used]
  | y :: l => by
    have ih := used_dins x l
    simp only [dins]
    split
    · simp [used]; omega
    · simp only [used, List.map_cons, List.sum_cons] at ih ⊢; omega
theorem used_ddel_none {n : List UInt8} : ∀ {l : List (List UInt8 × Fl)}, dget n l = none → ddel n l = l
  | [], _ => rfl
  | y :: l, h => by
    unfold dget at h
    simp only [Option.map_eq_none_iff, List.find?_eq_none] at h
    unfold ddel
    exact List.filter_eq_self.2 fun p hp => by have := h p hp; simpa using this
theorem used_ddel {n : List UInt8} {f : Fl} : ∀ {l : List (List UInt8 × Fl)}, Keys l → dget n l = some f → used (ddel n l) + f.b.length = used l ∧ (ddel n l).length + 1 = l.length
  | [], _, h => by simp [dget] at h
  | y :: l, hk, h => by
    obtain ⟨h1, h2⟩ := List.pairwise_cons.1 hk
    by_cases e : y.1 = n
    · have hf : y.2 = f := by simpa [dget, e] using h
      have hnone : ddel n l = l := by
        unfold ddel
        exact List.filter_eq_self.2 fun p hp => by have := h1 p hp; rw [e] at this; simpa using Ne.symm this
      have hd : ddel n (y :: l) = l := by
        have : (y.1 == n) = true := by simp [e]
        unfold ddel at hnone ⊢
        simp only [List.filter_cons, this, Bool.not_true, Bool.false_eq_true, if_false]
        exact hnone
      rw [hd]
      subst hf
      simp [used]; omega
    · have hb : (y.1 == n) = false := by simp [e]
      have hg : dget n l = some f := by simpa [dget, List.find?_cons, hb] using h
      obtain ⟨i1, i2⟩ := used_ddel h2 hg
      have hd : ddel n (y :: l) = y :: ddel n l := by unfold ddel; simp [List.filter_cons, hb]
      rw [hd]
      simp only [used, List.map_cons, List.sum_cons, List.length_cons] at i1 ⊢
      omega
theorem used_dput_none {n : List UInt8} {f : Fl} {l : List (List UInt8 × Fl)} (h : dget n l = none) : used (dput n f l) = used l + f.b.length ∧ (dput n f l).length = l.length + 1 := by
  unfold dput
  rw [used_dins, dins_len, used_ddel_none h]; exact ⟨rfl, rfl⟩
theorem used_dput {n : List UInt8} {f g : Fl} {l : List (List UInt8 × Fl)} (hk : Keys l) (h : dget n l = some f) : used (dput n g l) + f.b.length = used l + g.b.length ∧ (dput n g l).length = l.length := by
  obtain ⟨h1, h2⟩ := used_ddel hk h
  unfold dput
  rw [used_dins, dins_len]; simp only; omega

variable {d : Dk} {s t : ByteArray} {b : List UInt8} {keep : List Int}
theorem Inv.burn (h : Inv d) : Inv (burn d) := by
  have h1 := h.fuse0; have h2 := h.fuse1
  exact ⟨h.room0, h.room1, h.n, h.fit, h.fl, h.nm, h.key, by simp only [Proofs.Ythllcknfidnfaaa.burn]; omega, by simp only [Proofs.Ythllcknfidnfaaa.burn]; omega, h.fail0, h.fail1⟩
theorem Inv.files {fs : List (List UInt8 × Fl)} (h : Inv d) (hn : fs.length ≤ 64) (hu : (used fs : Int) ≤ d.room) (hf : ∀ p ∈ fs, 0 ≤ p.2.last ∧ p.2.last ≤ p.2.b.length) (hm : ∀ p ∈ fs, p.1.length ≤ 16) (hk : Keys fs) : Inv { d with files := fs } :=
  ⟨h.room0, h.room1, hn, hu, hf, hm, hk, h.fuse0, h.fuse1, h.fail0, h.fail1⟩
theorem Inv.setFuse (h : Inv d) {n : Int} (hn : n ≤ 9223372036854775807) : Inv (setFuse d n) :=
  ⟨h.room0, h.room1, h.n, h.fit, h.fl, h.nm, h.key, by simp only [Proofs.Ythllcknfidnfaaa.setFuse]; omega, by simp only [Proofs.Ythllcknfidnfaaa.setFuse]; omega, h.fail0, h.fail1⟩
theorem Inv.setFail (h : Inv d) {n : Int} (hn : n ≤ 9223372036854775807) : Inv (setFail d n) :=
  ⟨h.room0, h.room1, h.n, h.fit, h.fl, h.nm, h.key, h.fuse0, h.fuse1, by simp only [Proofs.Ythllcknfidnfaaa.setFail]; omega, by simp only [Proofs.Ythllcknfidnfaaa.setFail]; omega⟩
theorem Inv.put_some {n : List UInt8} {f g : Fl} (h : Inv d) (hg : dget n d.files = some f) (hl : (used d.files : Int) + g.b.length ≤ d.room + f.b.length) (h0 : 0 ≤ g.last ∧ g.last ≤ g.b.length) : Inv { d with files := dput n g d.files } := by
  obtain ⟨h1, h2⟩ := used_dput (g := g) h.key hg
  refine h.files (by rw [h2]; exact h.n) (by omega) (fun p hp => ?_) (fun p hp => ?_) (keys_dput h.key)
  · rcases mem_dput.1 hp with rfl | ⟨hp, _⟩
    · exact h0
    · exact h.fl p hp
  · rcases mem_dput.1 hp with rfl | ⟨hp, _⟩
    · exact h.nm (n, f) (dget_mem hg)
    · exact h.nm p hp
theorem Inv.put_none {n : List UInt8} {g : Fl} (h : Inv d) (hg : dget n d.files = none) (hc : d.files.length < 64) (hl : (used d.files : Int) + g.b.length ≤ d.room) (h0 : 0 ≤ g.last ∧ g.last ≤ g.b.length) (hn : n.length ≤ 16) : Inv { d with files := dput n g d.files } := by
  obtain ⟨h1, h2⟩ := used_dput_none (f := g) hg
  refine h.files (by rw [h2]; exact hc) (by omega) (fun p hp => ?_) (fun p hp => ?_) (keys_dput h.key)
  · rcases mem_dput.1 hp with rfl | ⟨hp, _⟩
    · exact h0
    · exact h.fl p hp
  · rcases mem_dput.1 hp with rfl | ⟨hp, _⟩
    · exact hn
    · exact h.nm p hp
theorem Inv.del {n : List UInt8} {f : Fl} (h : Inv d) (hg : dget n d.files = some f) : Inv { d with files := ddel n d.files } := by
  obtain ⟨h1, h2⟩ := used_ddel h.key hg
  have := h.n; have := h.fit
  exact h.files (by omega) (by omega) (fun p hp => h.fl p (mem_ddel.1 hp).1) (fun p hp => h.nm p (mem_ddel.1 hp).1) (keys_ddel h.key)
theorem Inv.sync (h : Inv d) : Inv (sync d s).2 := by
  unfold Proofs.Ythllcknfidnfaaa.sync
  split
  · exact h
  · split
    · exact h.burn
    · rename_i f hg
      have hb := h.burn
      split
      · have := h.fail0; have := h.fail1
        exact ⟨hb.room0, hb.room1, hb.n, hb.fit, hb.fl, hb.nm, hb.key, hb.fuse0, hb.fuse1, by show (0 : Int) ≤ d.fail - 1; omega, by show d.fail - 1 ≤ _; omega⟩
      · have hF := h.flOK hg
        have hu := h.fit
        exact hb.put_some (f := f) (g := { f with last := f.b.length }) hg (by show (used d.files : Int) + f.b.length ≤ d.room + f.b.length; omega) ⟨by simp, by simp⟩
theorem Inv.delete (h : Inv d) : Inv (delete d s).2 := by
  unfold Proofs.Ythllcknfidnfaaa.delete
  split
  · exact h
  · split
    · exact h.burn
    · rename_i f hg
      exact h.burn.del (f := f) hg
theorem named_len (h : named t = true) : t.data.toList.length ≤ 16 := by
  have := named_size h
  simpa using this
theorem dget_ddel_self (n : List UInt8) (l : List (List UInt8 × Fl)) : dget n (ddel n l) = none := by rw [dget_ddel]; simp
theorem Inv.rename (h : Inv d) : Inv (rename d s t).2 := by
  unfold Proofs.Ythllcknfidnfaaa.rename
  split
  · exact h
  · split
    · exact h.burn
    · rename_i hn
      simp only [Bool.not_eq_false] at hn
      split
      · exact h.burn
      · rename_i f hg
        have hd := h.burn.del (f := f) hg
        obtain ⟨u1, u2⟩ := used_ddel h.key hg
        have hu := h.fit; have hn64 := h.n
        have hF := h.flOK hg
        cases hg2 : dget t.data.toList (ddel s.data.toList d.files) with
        | none => exact hd.put_none (g := f) hg2 (by show (ddel s.data.toList d.files).length < 64; omega) (by show (used (ddel s.data.toList d.files) : Int) + f.b.length ≤ d.room; omega) ⟨hF.lo, hF.hi⟩ (named_len hn)
        | some g => exact hd.put_some (f := g) (g := f) hg2 (by show (used (ddel s.data.toList d.files) : Int) + f.b.length ≤ d.room + g.b.length; omega) ⟨hF.lo, hF.hi⟩
theorem Inv.write (h : Inv d) : Inv (write d s b).2 := by
  unfold Proofs.Ythllcknfidnfaaa.write
  split
  · exact h
  · split
    · exact h.burn
    · rename_i hn
      simp only [Bool.not_eq_false] at hn
      split
      · rename_i hg
        split
        · exact h.burn
        · split
          · exact h.burn
          · exact h.burn.put_none (g := ⟨b, 0⟩) hg (by show d.files.length < 64; omega) (by show (used d.files : Int) + b.length ≤ d.room; omega) ⟨by simp, by simp⟩ (named_len hn)
      · rename_i f hg
        have hF := h.flOK hg
        split
        · exact h.burn
        · refine h.burn.put_some (f := f) (g := { f with b := f.b ++ b }) hg ?_ ⟨hF.lo, ?_⟩
          · show (used d.files : Int) + (f.b ++ b).length ≤ d.room + f.b.length
            simp only [List.length_append]; omega
          · show f.last ≤ ((f.b ++ b).length : Nat)
            have := hF.hi
            simp only [List.length_append]; omega
theorem crF_len (f : Fl) (k : Option Int) : (crF f k).b.length ≤ f.b.length := by
  unfold crF
  split <;> simp [List.length_take] <;> omega
theorem Inv.crFs (keep : List Int) : ∀ (ns : List (List UInt8)) (i : Nat) (d : Dk), Inv d → Inv { d with files := crFs keep i ns d.files }
  | [], i, d, h => h
  | n :: ns, i, d, h => by
    simp only [Proofs.Ythllcknfidnfaaa.crFs]
    cases hg : dget n d.files with
    | none => exact Inv.crFs keep ns (i + 1) d h
    | some f =>
      have hF := h.flOK hg
      have hc := crF_ok hF keep[i]?
      have hl := crF_len f keep[i]?
      have hu := h.fit
      exact Inv.crFs keep ns (i + 1) { d with files := dput n (crF f keep[i]?) d.files } (h.put_some (f := f) hg (by omega) ⟨hc.lo, hc.hi⟩)
theorem Inv.crash (h : Inv d) : Inv (crash d keep) := by
  have h1 := Inv.crFs keep (names d) 0 d h
  exact ⟨h1.room0, h1.room1, h1.n, h1.fit, h1.fl, h1.nm, h1.key, by simp [Proofs.Ythllcknfidnfaaa.crash], by simp [Proofs.Ythllcknfidnfaaa.crash], by simp [Proofs.Ythllcknfidnfaaa.crash], by simp [Proofs.Ythllcknfidnfaaa.crash]⟩

/-- A call, as a statement's input has it. -/
structure OpV where
  what : Int
  name : ByteArray
  to : ByteArray
  b : List UInt8
  n : Int
  keep : List Int
structure OpV.OK (o : OpV) : Prop where
  name : o.name.size ≤ maxLen
  to : o.to.size ≤ maxLen
  n : o.n ≤ 9223372036854775807
  keep : ∀ k ∈ o.keep, k ≤ 9223372036854775807
  keepl : o.keep.length ≤ 9223372036854775807
def doOp (d : Dk) (o : OpV) : Int × Dk :=
  if o.what == 3 || o.what == 4 then sync d o.name
  else if o.what == 5 then rename d o.name o.to
  else if o.what == 6 then delete d o.name
  else if o.what == 7 then (0, setFuse d o.n)
  else if o.what == 8 then (0, setFail d o.n)
  else if o.what == 9 then (0, crash d o.keep)
  else write d o.name o.b
theorem Inv.doOp {o : OpV} (h : Inv d) (ho : o.OK) : Inv (doOp d o).2 := by
  unfold Proofs.Ythllcknfidnfaaa.doOp
  split
  · exact h.sync
  split
  · exact h.rename
  split
  · exact h.delete
  split
  · exact h.setFuse ho.n
  split
  · exact h.setFail ho.n
  split
  · exact h.crash
  exact h.write
theorem Inv.new {n : Int} (h0 : 0 ≤ n) (h1 : n ≤ 1048576) : Inv ⟨n, [], -1, 0⟩ :=
  ⟨h0, h1, by simp, by simpa [Proofs.Ythllcknfidnfaaa.used] using h0, by simp, by simp, by simp, by simp, by simp, by simp, by simp⟩
end Go.Proofs.Ythllcknfidnfaaa
