/- The document's disk, anywhere in a store: all its calls but Crash. -/
import Derived.Test.YtdplbgfokoajjaaGreatXk
import Derived.Test.YtdplbgfokoajjaaGreatXe
section
set_option linter.unusedVariables false
set_option linter.unusedSimpArgs false
set_option maxRecDepth 20000
namespace Go.Proofs.YtdplbgfokoajjaaGreat
open Go
attribute [-simp] List.map_set
def Kept (σ σ' : Store) (i : Nat) (d : Dk) : Prop := ∃ l, (i = l ∨ ∃ g, σ[l]? = some (some (.cells 74 g (d.files.map eF)))) ∧ ∀ b, b < σ.length → b ≠ i → b ≠ l → σ'[b]? = σ[b]?
section
variable {R : Re → Store → Prop} {σ : Store} {d : Dk} {i : Nat} {n : Int} {s t : ByteArray} {b : List UInt8}
theorem R_write_at (h0 : RdAt σ i d) (hI : Inv d) (hS : srt d.files) (hs : s.size ≤ 9223372036854775807) (hb : b.length ≤ 9223372036854775807) (h : ∀ σ', RdAt σ' i (write d s b).2 → Kept σ σ' i d → R (.ret (i64 (write d s b).1)) σ') : C tE 37 [.ptr i 0 0 [], .str s, .lit (u8l b)] σ R :=
 R_put_at (args := [.ptr 0 0 0 [], .str s, .lit (u8l b)]) h0 (by simp [allL, allB, allL_u8l]) (by simp [allL, allB, allL_u8l]) (fun r hr => by simp [renL, ren, hr, renL_u8l]) (fun r => rfl)
  (fun R g h => R_write hI hS hb (fun h => R_name hs h) h) (fun h0' R h => R_write_0 hI h0' hb (fun h => R_name hs h) h) h
theorem R_rename_at (h0 : RdAt σ i d) (hI : Inv d) (hS : srt d.files) (ht : t.size ≤ 9223372036854775807) (h : ∀ σ', RdAt σ' i (rename d s t).2 → Kept σ σ' i d → R (.ret (i64 (rename d s t).1)) σ') : C tE 32 [.ptr i 0 0 [], .str s, .str t] σ R :=
 R_put_at (args := [.ptr 0 0 0 [], .str s, .str t]) h0 rfl rfl (fun r hr => by simp [renL, ren, hr]) (fun r => rfl)
  (fun R g h => R_rename hI hS (fun h => R_name ht h) h) (fun h0' R h => R_rename_0 hI h0' (fun h => R_name ht h) h) h
theorem R_fuse_at (h0 : RdAt σ i d) (h : ∀ σ', RdAt σ' i (setFuse d n) → Kept σ σ' i d → R (.ret (.tup [])) σ') : C tE 34 [.ptr i 0 0 [], i64 n] σ R :=
 R_put_at (args := [.ptr 0 0 0 [], i64 n]) h0 rfl rfl (fun r hr => by simp [renL, ren, hr]) (fun r => rfl)
  (fun R g h => R_fuse (h _ rfl _ (.row 1 g (by decide) rfl rfl))) (fun h0' R h => R_fuse (h _ rfl _ (.nil h0' rfl))) h
theorem R_fail_at (h0 : RdAt σ i d) (h : ∀ σ', RdAt σ' i (setFail d n) → Kept σ σ' i d → R (.ret (.tup [])) σ') : C tE 35 [.ptr i 0 0 [], i64 n] σ R :=
 R_put_at (args := [.ptr 0 0 0 [], i64 n]) h0 rfl rfl (fun r hr => by simp [renL, ren, hr]) (fun r => rfl)
  (fun R g h => R_fail (h _ rfl _ (.row 1 g (by decide) rfl rfl))) (fun h0' R h => R_fail (h _ rfl _ (.nil h0' rfl))) h
theorem R_get_at {f : FuncId} {args args' : List PV} {v : PV} (h0 : RdAt σ i d) (hargs : allL (fun b => decide (b < 1)) args = true) (hargs2 : allL (fun b => decide (b < 2)) args = true) (ha : ∀ r : Nat → Nat, r 0 = i → renL r args = args') (hv : ∀ τ, frz τ 6 v = some v)
  (hB : ∀ (R : Re → Store → Prop) (g : Nat), R (.ret v) (rdB g d) → C tE f args (rdB g d) R) (hA : d.files = [] → ∀ R : Re → Store → Prop, R (.ret v) (rdA d) → C tE f args (rdA d) R) (h : R (.ret v) σ) : C tE f args' σ R := by
 cases h0 with
 | nil h0' st => rw [← ha (nth [i]) rfl]; exact R_at00 st hargs (hA h0') hv h
 | row l g ne st ls => rw [← ha (nth [i, l]) rfl]; exact R_at0 ne st ls hargs2 (fun R h => hB R g h) hv h
theorem R_used_rd (h0 : RdAt σ i d) (hI : Inv d) (h : R (.ret (i64 (used d.files))) σ) : C tE 19 [.ptr i 0 0 []] σ R :=
 R_get_at (args := [.ptr 0 0 0 []]) h0 rfl rfl (fun r hr => by simp [renL, ren, hr]) (fun _ => rfl) (fun R g h => R_used (by have := hI.n; omega) (by have := hI.fit; have := hI.room1; omega) h) (fun h0' R h => R_used_0 (by rw [h0'] at h; exact h)) h
theorem R_synced_rd (h0 : RdAt σ i d) (hI : Inv d) (h : R (.ret (i64 ((dget s.data.toList d.files).elim 0 (·.last)))) σ) : C tE 21 [.ptr i 0 0 [], .str s] σ R :=
 R_get_at (args := [.ptr 0 0 0 [], .str s]) h0 rfl rfl (fun r hr => by simp [renL, ren, hr]) (fun _ => rfl) (fun R g h => R_synced (by have := hI.n; omega) h) (fun h0' R h => R_synced_0 (by rw [h0'] at h; exact h)) h
theorem R_read_rd (h0 : RdAt σ i d) (hI : Inv d) (h : R (.ret (.tup [.lit (u8l ((dget s.data.toList d.files).elim [] (·.b))), .bool (dget s.data.toList d.files).isSome])) σ) : C tE 46 [.ptr i 0 0 [], .str s] σ R :=
 R_get_at (args := [.ptr 0 0 0 [], .str s]) h0 rfl rfl (fun r hr => by simp [renL, ren, hr]) (fun _ => rfl) (fun R g h => R_read (by have := hI.n; omega) (fun f hf => by have := (hI.flOK hf).sz; omega) h) (fun h0' R h => R_read_0 (by rw [h0'] at h; exact h)) h
theorem R_list_rd (h0 : RdAt σ i d) (hI : Inv d) (h : R (.ret (.lit (d.files.map eN))) σ) : C tE 17 [.ptr i 0 0 []] σ R :=
 R_get_at (args := [.ptr 0 0 0 []]) h0 rfl rfl (fun r hr => by simp [renL, ren, hr]) (fun _ => rfl) (fun R g h => R_list (by have := hI.n; omega) h) (fun h0' R h => R_list_0 (by rw [h0'] at h; exact h)) h
end
end Go.Proofs.YtdplbgfokoajjaaGreat
end
section
set_option linter.unusedVariables false
set_option linter.unusedSimpArgs false
set_option maxRecDepth 20000
namespace Go.Proofs.YtdplbgfokoajjaaGreat
open Go
theorem srt_ddel {n : List UInt8} {l : List (List UInt8 × Fl)} (h : srt l) : srt (ddel n l) := List.Pairwise.sublist List.filter_sublist h
theorem ddel_ne {n : List UInt8} {l : List (List UInt8 × Fl)} : ∀ p ∈ ddel n l, p.1 ≠ n := fun p hp => by
 have := (List.mem_filter.1 hp).2
 simpa using this
theorem srt_dins {n : List UInt8} {f : Fl} : ∀ {l : List (List UInt8 × Fl)}, srt l → (∀ p ∈ l, p.1 ≠ n) → srt (dins (n, f) l)
 | [], _, _ => by simp [dins, srt]
 | p :: l, h, hne => by
  have h2 := List.pairwise_cons.1 h
  unfold dins
  split
  ·rename_i hb
   have hb : bytesBefore n p.1 = true := hb
   refine List.pairwise_cons.2 ⟨fun q hq => ?_, h⟩
   rcases List.mem_cons.1 hq with rfl | hq
   ·exact hb
   ·exact bb_trans hb (h2.1 q hq)
  ·rename_i hb
   have hb : bytesBefore p.1 n = true := by
    rcases bb_tri p.1 n with h3 | h3 | h3
    ·exact absurd h3 (hne p (by simp))
    ·exact h3
    ·exact absurd h3 hb
   have ih := srt_dins (f := f) h2.2 (fun q hq => hne q (by simp [hq]))
   refine List.pairwise_cons.2 ⟨fun q hq => ?_, ih⟩
   have hq' : q = (n, f) ∨ q ∈ l := by
    clear ih h h2 hb hne
    induction l with
    | nil => simp [dins] at hq; exact .inl hq
    | cons y r ih =>
     unfold dins at hq
     split at hq
     ·rcases List.mem_cons.1 hq with h | h
      ·exact .inl h
      ·exact .inr h
     ·rcases List.mem_cons.1 hq with h | h
      ·exact .inr (by simp [h])
      ·rcases ih h with h | h
       ·exact .inl h
       ·exact .inr (by simp [h])
   rcases hq' with rfl | hq'
   ·exact hb
   ·exact h2.1 q hq'
theorem srt_dput {n : List UInt8} {f : Fl} {l : List (List UInt8 × Fl)} (h : srt l) : srt (dput n f l) := srt_dins (srt_ddel h) ddel_ne
theorem srt_write {d : Dk} {s : ByteArray} {b : List UInt8} (h : srt d.files) : srt (write d s b).2.files := by
 unfold write
 split
 ·exact h
 ·split
  ·exact h
  ·split
   ·split
    ·exact h
    ·split
     ·exact h
     ·exact srt_dput h
   ·split
    ·exact h
    ·exact srt_dput h
theorem srt_sync {d : Dk} {s : ByteArray} (h : srt d.files) : srt (sync d s).2.files := by
 unfold sync
 split
 ·exact h
 ·split
  ·exact h
  ·split
   ·exact h
   ·exact srt_dput h
theorem srt_delete {d : Dk} {s : ByteArray} (h : srt d.files) : srt (delete d s).2.files := by
 unfold delete
 split
 ·exact h
 ·split
  ·exact h
  ·exact srt_ddel h
theorem srt_rename {d : Dk} {s t : ByteArray} (h : srt d.files) : srt (rename d s t).2.files := by
 unfold rename
 split
 ·exact h
 ·split
  ·exact h
  ·split
   ·exact h
   ·exact srt_dput (srt_ddel h)
theorem srt_crFs {keep : List Int} : ∀ (ns : List (List UInt8)) (i : Nat) (l : List (List UInt8 × Fl)), srt l → srt (crFs keep i ns l)
 | [], i, l, h => h
 | n :: ns, i, l, h => by
  unfold crFs
  refine srt_crFs ns (i + 1) _ ?_
  split
  ·exact srt_dput h
  ·exact h
theorem srt_crash {d : Dk} {keep : List Int} (h : srt d.files) : srt (crash d keep).files := srt_crFs _ _ _ h
theorem bb_lt : ∀ {a b : List UInt8}, bytesBefore a b = true → a < b
 | [], [], h => by simp [bytesBefore] at h
 | [], _ :: _, _ => List.nil_lt_cons _ _
 | _ :: _, [], h => by simp [bytesBefore] at h
 | a :: r, b :: s, h => by
  simp only [bytesBefore, Bool.or_eq_true, Bool.and_eq_true, decide_eq_true_eq, beq_iff_eq] at h
  rw [List.cons_lt_cons_iff]
  rcases h with h | ⟨rfl, h⟩
  ·exact .inl h
  ·exact .inr ⟨rfl, bb_lt h⟩
theorem names_srt {d : Dk} (h : srt d.files) : names d = d.files.map (·.1) := by
 unfold names
 refine List.mergeSort_of_pairwise ?_
 rw [List.pairwise_map]
 exact h.imp fun {p q} hpq => by
  rw [decide_eq_true_eq]
  exact List.le_of_lt (bb_lt hpq)
def crM (keep : List Int) : Nat → List (List UInt8 × Fl) → List (List UInt8 × Fl)
 | _, [] => []
 | i, p :: l => (p.1, crF p.2 keep[i]?) :: crM keep (i + 1) l
theorem crM_len (keep : List Int) : ∀ (i : Nat) (l : List (List UInt8 × Fl)), (crM keep i l).length = l.length
 | _, [] => rfl
 | i, p :: l => by simp [crM, crM_len keep (i + 1) l]
theorem crM_gt (keep : List Int) : ∀ (i : Nat) (l : List (List UInt8 × Fl)) (j : Nat), j < l.length → gt (crM keep i l) j = ((gt l j).1, crF (gt l j).2 keep[i + j]?)
 | _, [], j, h => by simp at h
 | i, p :: l, 0, h => rfl
 | i, p :: l, j + 1, h => by
  have := crM_gt keep (i + 1) l j (by simpa using h)
  rw [show i + 1 + j = i + (j + 1) by omega] at this
  simpa [crM, gt] using this
theorem dget_mid {n : List UInt8} {f : Fl} {a b : List (List UInt8 × Fl)} (h : srt (a ++ (n, f) :: b)) : dget n (a ++ (n, f) :: b) = some f := by
 have hp := List.pairwise_append.1 h
 have : a.find? (fun p => p.1 == n) = none := by
  rw [List.find?_eq_none]
  intro p hpa
  have := hp.2.2 p hpa (n, f) (by simp)
  simp only [beq_iff_eq]
  intro e; rw [e, bb_irr] at this; cases this
 unfold dget
 rw [List.find?_append, this]
 simp
theorem crFs_eq {keep : List Int} : ∀ (rest done : List (List UInt8 × Fl)) (i : Nat), srt (done ++ rest) → crFs keep i (rest.map (·.1)) (done ++ rest) = done ++ crM keep i rest
 | [], done, i, _ => by simp [crFs, crM]
 | p :: rest, done, i, h => by
  have hg : dget p.1 (done ++ p :: rest) = some p.2 := dget_mid (f := p.2) h
  have hd : dput p.1 (crF p.2 keep[i]?) (done ++ p :: rest) = (done ++ [(p.1, crF p.2 keep[i]?)]) ++ rest := by
   rw [dput_set (i := done.length) h (by simp) (by simp [gt])]
   rw [List.set_append_right _ _ (Nat.le_refl _)]
   simp
  rw [List.map_cons, crFs, hg]
  simp only
  have hs := srt_dput (n := p.1) (f := crF p.2 keep[i]?) h
  rw [hd] at hs ⊢
  rw [crFs_eq rest _ (i + 1) hs]
  simp [crM]
theorem crash_eq {d : Dk} {keep : List Int} (h : srt d.files) : crash d keep = { d with files := crM keep 0 d.files, fuse := -1, fail := 0 } := by
 unfold crash
 rw [names_srt h]
 have := crFs_eq (keep := keep) d.files [] 0 h
 rw [List.nil_append] at this
 rw [this]; rfl
end Go.Proofs.YtdplbgfokoajjaaGreat
end
section
set_option linter.unusedVariables false
set_option linter.unusedSimpArgs false
set_option maxRecDepth 20000
namespace Go.Proofs.YtdplbgfokoajjaaGreat
open Go
attribute [local irreducible] T TL C RG DP SP YR afterRG DPcall
attribute [-simp] List.map_set
theorem allL_ap (p : Nat → Bool) (b : List PV) : ∀ a : List PV, allL p (a ++ b) = (allL p a && allL p b)
 | [] => by simp [allL]
 | x :: a => by simp only [List.cons_append, allL, allL_ap p b a, Bool.and_assoc]
theorem renL_ap (r : Nat → Nat) (b : List PV) : ∀ a : List PV, renL r (a ++ b) = renL r a ++ renL r b
 | [] => rfl
 | x :: a => by simp only [List.cons_append, renL, renL_ap r b a]
attribute [local simp] allL_eF renL_eF allL_u8l renL_u8l allL_ap renL_ap
section
variable {R : Re → Store → Prop} {d : Dk} {n : Int} {g : Nat}
set_option maxHeartbeats 4000000 in
theorem R_crash {keep : List Int} (hI : Inv d) (hk : ∀ k ∈ keep, k ≤ 9223372036854775807) (hkl : keep.length ≤ 9223372036854775807) (h : ∀ σ', RdAt σ' 0 { d with files := crM keep 0 d.files, fuse := -1, fail := 0 } → R (.ret (.tup [])) σ') : C tE 36 [.ptr 0 0 0 [], .lit (keep.map i64)] (rdB g d) R := by
 have hn := hI.n
 refine C_keep tOK ?_
 refine s_body' Tryz.func36 tOK rfl (by conv => lhs; simp) (by conv => lhs; simp) (by conv => lhs; simp [Fr.args]) rfl (by conv => lhs; try simp) fun R9 hR9 => ?_
 repeat' (first | refine go ?_ | refine s_seq fun y9 hy9 => ?_ | refine qT _ ?_ ?_ | refine qG _ ?_ ?_ | refine qN ?_ ?_ | (refine QB.mk fun hb9 => ?_; (try simp only [hb9]); (try simp at hb9); first | (exfalso; omega) | subst hb9 | skip) | refine sD tOK tmix [([],0),([],1),([0,1],2),([0,1,2],3),([0,1,2,3],4),([],5),([5],6),([5,6],7),([],8),([8],9),([5,6,7,8,9],10),([0,1,2,3,4,5,6,7,8,9,10],11),([0,1,2,3,4,5,6,7,8,9,10,11],12)] 11 ?_ | refine sD tOK tmix [([],4),([],5),([1],6),([],0),([],7),([4],8),([],9),([4,5,6],10),([3,4,5,6,7],1),([],11),([1,2,3,4,5,6,7,8,9],12),([1,2,3,4,5,6,7,8,9,10],2),([0,1,2,3,4,5,6,7,8,9,10,11],3),([0,1,2,3,4,5,6,7,8,9,10,11,12],13)] 12 ?_ | refine qD _ ?_ ?_)
 refine s_loop fun c9 hc9 => ?_
 refine w_trim 2 [0, 1, 4, 5] (by conv => lhs; simp) (by conv => lhs; simp) (by first | rfl | simp) (by first | rfl | simp) ?_
 obtain ⟨G, hG⟩ : ∃ G : Nat → List (List UInt8 × Fl), ∀ j, G j = (crM keep 0 d.files).take j := ⟨_, fun j => rfl⟩
 have hG0 : G 0 = [] := by rw [hG]; rfl
 have hGs : ∀ j, j < d.files.length → G (j + 1) = G j ++ [((gt d.files j).1, crF (gt d.files j).2 keep[j]?)] := fun j hj => by
  rw [hG, hG, List.take_add_one, gq (by rw [crM_len]; exact hj), crM_gt keep 0 d.files j hj, Nat.zero_add]; rfl
 have hGl : ∀ j, j ≤ d.files.length → (G j).length = j := fun j hj => by rw [hG, List.length_take, crM_len]; omega
 have hGe : G d.files.length = crM keep 0 d.files := by rw [hG, ← crM_len keep 0 d.files, List.take_length]
 have hsz : ∀ j, j < d.files.length → (gt d.files j).2.b.length < 100000000 ∧ 0 ≤ (gt d.files j).2.last ∧ (gt d.files j).2.last ≤ (gt d.files j).2.b.length := fun j hj => by
  have hm : gt d.files j ∈ d.files := by simp [gt, hj]
  have h1 := hI.fl _ hm
  have h2 : (gt d.files j).2.b.length ≤ used d.files := by
   have := used_succ hj
   have := used_le d.files (j + 1)
   omega
  have := hI.fit; have := hI.room1
  omega
 refine s_loopn d.files.length (fun j fr σ => (j = 0 ∧ fr = [(0, .ptr 0 0 0 []), (1, .lit (keep.map i64)), (4, .nils), (5, i64 (0 : Nat))] ∧ σ = rdB g d) ∨ (0 < j ∧ fr = [(0, .ptr 0 0 0 []), (1, .lit (keep.map i64)), (4, .ref 2 (j - 1) 0 j), (5, i64 j)] ∧ σ = rdB g d ++ [some (.cells 74 (j - 1) ((G j).map eF))])) ?_ (.inl ⟨rfl, by simp, by first | rfl | simp⟩)
 rintro j fr σ hj hS ih
 rcases Nat.lt_or_ge j d.files.length with hlt | hge
 ·have hz := hsz j hlt
  have hgs := hGs j hlt
  have hgl := hGl j hj
  refine s_round hc9 ?_
  clear hc9
  refine j2 (fun fr σ => fr = [(0, .ptr 0 0 0 []), (1, .lit (keep.map i64)), (4, .ref 2 j 0 (j + 1)), (5, i64 j)] ∧ σ = rdB g d ++ [some (.cells 74 j ((G (j + 1)).map eF))]) ?_ fun yJ key => ?_
  ·rintro _ _ ⟨rfl, rfl⟩
   repeat' (first | refine go ?_ | refine s_seq fun y9 hy9 => ?_ | refine qT _ ?_ ?_ | refine qG _ ?_ ?_ | refine qN ?_ ?_ | (refine QB.mk fun hb9 => ?_; (try simp only [hb9]); (try simp at hb9); first | (exfalso; omega) | subst hb9 | skip) | refine sD tOK tmix [([],0),([],1),([0,1],2),([0,1,2],3),([0,1,2,3],4),([],5),([5],6),([5,6],7),([],8),([8],9),([5,6,7,8,9],10),([0,1,2,3,4,5,6,7,8,9,10],11),([0,1,2,3,4,5,6,7,8,9,10,11],12)] 11 ?_ | refine sD tOK tmix [([],4),([],5),([1],6),([],0),([],7),([4],8),([],9),([4,5,6],10),([3,4,5,6,7],1),([],11),([1,2,3,4,5,6,7,8,9],12),([1,2,3,4,5,6,7,8,9,10],2),([0,1,2,3,4,5,6,7,8,9,10,11],3),([0,1,2,3,4,5,6,7,8,9,10,11,12],13)] 12 ?_ | refine qD _ ?_ ?_)
   refine w_back 3 [0, 1, 4, 5] (by conv => lhs; simp) (by conv => lhs; simp) (by first | rfl | simp) (by first | rfl | simp) ?_
   exact ih hlt _ _ (.inr ⟨by omega, by simp, by simp⟩)
  ·rcases hS with ⟨rfl, rfl, rfl⟩ | ⟨hj0, rfl, rfl⟩
   ·rcases Nat.lt_or_ge 0 keep.length with hk0 | hk0
    ·have hkq : keep[0]? = some (gt keep 0) := gq hk0
     repeat' (first | refine go ?_ | refine s_seq fun y9 hy9 => ?_ | refine qT _ ?_ ?_ | refine qG _ ?_ ?_ | refine qN ?_ ?_ | (refine QB.mk fun hb9 => ?_; (try simp only [hb9]); (try simp at hb9); first | (exfalso; omega) | subst hb9 | skip) | refine sD tOK tmix [([],0),([],1),([0,1],2),([0,1,2],3),([0,1,2,3],4),([],5),([5],6),([5,6],7),([],8),([8],9),([5,6,7,8,9],10),([0,1,2,3,4,5,6,7,8,9,10],11),([0,1,2,3,4,5,6,7,8,9,10,11],12)] 11 ?_ | refine sD tOK tmix [([],4),([],5),([1],6),([],0),([],7),([4],8),([],9),([4,5,6],10),([3,4,5,6,7],1),([],11),([1,2,3,4,5,6,7,8,9],12),([1,2,3,4,5,6,7,8,9,10],2),([0,1,2,3,4,5,6,7,8,9,10,11],3),([0,1,2,3,4,5,6,7,8,9,10,11,12],13)] 12 ?_ | refine qD _ ?_ ?_)
     refine T_frzp tOK (fun b => b != 16) [0, 1, 4, 5] (by conv => lhs; simp) (keep_row (r := 30) (m := 16) (ys := [eF ((gt d.files 0).1, crF (gt d.files 0).2 keep[0]?)]) (by decide) rfl ?_) ?_
     ·rw [hkq]
      exact mapM_one (fp_file rfl (by simp [crF]))
     ·refine t_pick tOK [0, 1, 30] [0, 1, 4, 5] (by decide) (by rfl) (by rfl) (by conv => lhs; simp [Fr.keep]) (by conv => lhs; simp [pickS']) (by simp [Fr.keep]) (by simp [pickS']) ?_
      exact key.down _ _ ⟨by first | rfl | (simp; rfl), by rw [hgs, hG0]; first | rfl | (simp; rfl)⟩
    ·have hkq : keep[0]? = none := List.getElem?_eq_none hk0
     repeat' (first | refine go ?_ | refine s_seq fun y9 hy9 => ?_ | refine qT _ ?_ ?_ | refine qG _ ?_ ?_ | refine qN ?_ ?_ | (refine QB.mk fun hb9 => ?_; (try simp only [hb9]); (try simp at hb9); first | (exfalso; omega) | subst hb9 | skip) | refine sD tOK tmix [([],0),([],1),([0,1],2),([0,1,2],3),([0,1,2,3],4),([],5),([5],6),([5,6],7),([],8),([8],9),([5,6,7,8,9],10),([0,1,2,3,4,5,6,7,8,9,10],11),([0,1,2,3,4,5,6,7,8,9,10,11],12)] 11 ?_ | refine sD tOK tmix [([],4),([],5),([1],6),([],0),([],7),([4],8),([],9),([4,5,6],10),([3,4,5,6,7],1),([],11),([1,2,3,4,5,6,7,8,9],12),([1,2,3,4,5,6,7,8,9,10],2),([0,1,2,3,4,5,6,7,8,9,10,11],3),([0,1,2,3,4,5,6,7,8,9,10,11,12],13)] 12 ?_ | refine qD _ ?_ ?_)
     refine T_frzp tOK (fun b => b != 3) [0, 1, 4, 5] (by conv => lhs; simp) (keep_row (r := 17) (m := 3) (ys := [eF ((gt d.files 0).1, crF (gt d.files 0).2 keep[0]?)]) (by decide) rfl ?_) ?_
     ·rw [hkq]
      exact mapM_one (fp_file rfl (by simp [crF]))
     ·refine t_pick tOK [0, 1, 17] [0, 1, 4, 5] (by decide) (by rfl) (by rfl) (by conv => lhs; simp [Fr.keep]) (by conv => lhs; simp [pickS']) (by simp [Fr.keep]) (by simp [pickS']) ?_
      exact key.down _ _ ⟨by first | rfl | (simp; rfl), by rw [hgs, hG0]; first | rfl | (simp; rfl)⟩
   ·have htt : ((G j).map eF).take j = (G j).map eF := List.take_of_length_le (by simp [hgl])
    have e1 : j - 1 + 1 = j := by omega
    rcases Nat.lt_or_ge j keep.length with hk0 | hk0
    ·have hkq : keep[j]? = some (gt keep j) := gq hk0
     have F9 := And.intro @hgl <| @htt
     repeat' (first | refine gf ?_ | refine s_seq fun y9 hy9 => ?_ | refine qT _ ?_ ?_ | refine qG _ ?_ ?_ | refine qN ?_ ?_ | (refine QB.mk fun hb9 => ?_; (try simp only [hb9]); (try simp at hb9); first | (exfalso; omega) | subst hb9 | skip) | refine sD tOK tmix [([],0),([],1),([0,1],2),([0,1,2],3),([0,1,2,3],4),([],5),([5],6),([5,6],7),([],8),([8],9),([5,6,7,8,9],10),([0,1,2,3,4,5,6,7,8,9,10],11),([0,1,2,3,4,5,6,7,8,9,10,11],12)] 11 ?_ | refine sD tOK tmix [([],4),([],5),([1],6),([],0),([],7),([4],8),([],9),([4,5,6],10),([3,4,5,6,7],1),([],11),([1,2,3,4,5,6,7,8,9],12),([1,2,3,4,5,6,7,8,9,10],2),([0,1,2,3,4,5,6,7,8,9,10,11],3),([0,1,2,3,4,5,6,7,8,9,10,11,12],13)] 12 ?_ | refine qD _ ?_ ?_)
     refine T_frzp tOK (fun b => b != 17) [0, 1, 4, 5] (by conv => lhs; simp) (keep_row (r := 2) (m := 17) (ys := (G j).map eF ++ [eF ((gt d.files j).1, crF (gt d.files j).2 keep[j]?)]) (by decide) rfl ?_) ?_
     ·rw [hkq]
      exact mapM_app (fp_map _ _ _) (mapM_one (fp_file rfl (by simp [crF])))
     ·rw [e1]
      refine t_pick tOK [0, 1, 2] [0, 1, 4, 5] (by decide) (by rfl) (by rfl) (by conv => lhs; simp [Fr.keep]) (by conv => lhs; simp [pickS']) (by simp [Fr.keep]) (by simp [pickS']) ?_
      refine key.down _ _ ⟨by first | rfl | (simp; rfl), ?_⟩
      rw [hgs, List.map_append]
      first | rfl | (simp; rfl) | (simp; done) | (simp <;> first | rfl | decide | (and_intros <;> first | rfl | decide))
    ·have hkq : keep[j]? = none := List.getElem?_eq_none hk0
     have F9 := And.intro @hgl <| @htt
     repeat' (first | refine gf ?_ | refine s_seq fun y9 hy9 => ?_ | refine qT _ ?_ ?_ | refine qG _ ?_ ?_ | refine qN ?_ ?_ | (refine QB.mk fun hb9 => ?_; (try simp only [hb9]); (try simp at hb9); first | (exfalso; omega) | subst hb9 | skip) | refine sD tOK tmix [([],0),([],1),([0,1],2),([0,1,2],3),([0,1,2,3],4),([],5),([5],6),([5,6],7),([],8),([8],9),([5,6,7,8,9],10),([0,1,2,3,4,5,6,7,8,9,10],11),([0,1,2,3,4,5,6,7,8,9,10,11],12)] 11 ?_ | refine sD tOK tmix [([],4),([],5),([1],6),([],0),([],7),([4],8),([],9),([4,5,6],10),([3,4,5,6,7],1),([],11),([1,2,3,4,5,6,7,8,9],12),([1,2,3,4,5,6,7,8,9,10],2),([0,1,2,3,4,5,6,7,8,9,10,11],3),([0,1,2,3,4,5,6,7,8,9,10,11,12],13)] 12 ?_ | refine qD _ ?_ ?_)
     refine T_frzp tOK (fun b => b != 4) [0, 1, 4, 5] (by conv => lhs; simp) (keep_row (r := 2) (m := 4) (ys := (G j).map eF ++ [eF ((gt d.files j).1, crF (gt d.files j).2 keep[j]?)]) (by decide) rfl ?_) ?_
     ·rw [hkq]
      exact mapM_app (fp_map _ _ _) (mapM_one (fp_file rfl (by simp [crF])))
     ·rw [e1]
      refine t_pick tOK [0, 1, 2] [0, 1, 4, 5] (by decide) (by rfl) (by rfl) (by conv => lhs; simp [Fr.keep]) (by conv => lhs; simp [pickS']) (by simp [Fr.keep]) (by simp [pickS']) ?_
      refine key.down _ _ ⟨by first | rfl | (simp; rfl), ?_⟩
      rw [hgs, List.map_append]
      first | rfl | (simp; rfl) | (simp; done) | (simp <;> first | rfl | decide | (and_intros <;> first | rfl | decide))
 ·have hjl : j = d.files.length := by omega
  have hGj : G j = crM keep 0 d.files := by rw [hjl]; exact hGe
  refine s_round hc9 ?_
  clear hc9
  rcases hS with ⟨h0, rfl, rfl⟩ | ⟨hj0, rfl, rfl⟩
  ·have hnil : d.files = [] := List.eq_nil_of_length_eq_zero (by omega)
   subst h0
   repeat' (first | refine go ?_ | refine s_seq fun y9 hy9 => ?_ | refine qT _ ?_ ?_ | refine qG _ ?_ ?_ | refine qN ?_ ?_ | (refine QB.mk fun hb9 => ?_; (try simp only [hb9]); (try simp at hb9); first | (exfalso; omega) | subst hb9 | skip) | refine sD tOK tmix [([],0),([],1),([0,1],2),([0,1,2],3),([0,1,2,3],4),([],5),([5],6),([5,6],7),([],8),([8],9),([5,6,7,8,9],10),([0,1,2,3,4,5,6,7,8,9,10],11),([0,1,2,3,4,5,6,7,8,9,10,11],12)] 11 ?_ | refine sD tOK tmix [([],4),([],5),([1],6),([],0),([],7),([4],8),([],9),([4,5,6],10),([3,4,5,6,7],1),([],11),([1,2,3,4,5,6,7,8,9],12),([1,2,3,4,5,6,7,8,9,10],2),([0,1,2,3,4,5,6,7,8,9,10,11],3),([0,1,2,3,4,5,6,7,8,9,10,11,12],13)] 12 ?_ | refine qD _ ?_ ?_)
   refine ⟨fun b => b != 99, .tup [], _, rfl, keep_row (r := 0) (m := 99) (ys := [.agg 57 [i64 d.room, .lit [], i64 (-1), i64 0]]) (by decide) rfl rfl, ?_⟩
   refine h _ (.nil (by rw [hnil]; rfl) ?_)
   simp
  ·repeat' (first | refine go ?_ | refine s_seq fun y9 hy9 => ?_ | refine qT _ ?_ ?_ | refine qG _ ?_ ?_ | refine qN ?_ ?_ | (refine QB.mk fun hb9 => ?_; (try simp only [hb9]); (try simp at hb9); first | (exfalso; omega) | subst hb9 | skip) | refine sD tOK tmix [([],0),([],1),([0,1],2),([0,1,2],3),([0,1,2,3],4),([],5),([5],6),([5,6],7),([],8),([8],9),([5,6,7,8,9],10),([0,1,2,3,4,5,6,7,8,9,10],11),([0,1,2,3,4,5,6,7,8,9,10,11],12)] 11 ?_ | refine sD tOK tmix [([],4),([],5),([1],6),([],0),([],7),([4],8),([],9),([4,5,6],10),([3,4,5,6,7],1),([],11),([1,2,3,4,5,6,7,8,9],12),([1,2,3,4,5,6,7,8,9,10],2),([0,1,2,3,4,5,6,7,8,9,10,11],3),([0,1,2,3,4,5,6,7,8,9,10,11,12],13)] 12 ?_ | refine qD _ ?_ ?_)
   refine ⟨fun _ => true, .tup [], _, rfl, keep_all _ (fun _ => rfl) _ _ _, ?_⟩
   refine h _ (.row 2 (j - 1) (by decide) ?_ ?_)
   ·simp [crM_len, hjl]
   ·simp [hGj]
end
section
variable {R : Re → Store → Prop} {σ : Store} {d : Dk} {i : Nat} {n : Int}
theorem R_crash_0 {keep : List Int} (h0' : d.files = []) (h : ∀ σ', RdAt σ' 0 { d with files := crM keep 0 d.files, fuse := -1, fail := 0 } → R (.ret (.tup [])) σ') : C tE 36 [.ptr 0 0 0 [], .lit (keep.map i64)] (rdA d) R := by
 refine C_keep tOK ?_
 refine s_body' Tryz.func36 tOK rfl (by conv => lhs; simp) (by conv => lhs; simp) (by conv => lhs; simp [Fr.args]) rfl (by conv => lhs; try simp) fun R9 hR9 => ?_
 repeat' (first | refine go ?_ | refine s_seq fun y9 hy9 => ?_ | refine qT _ ?_ ?_ | refine qG _ ?_ ?_ | refine qN ?_ ?_ | (refine QB.mk fun hb9 => ?_; (try simp only [hb9]); (try simp at hb9); first | (exfalso; omega) | subst hb9 | skip) | refine w_loop fun y9 hy9 => ?_ | (apply w_again; assumption) | refine sD tOK tmix [([],0),([],1),([0,1],2),([0,1,2],3),([0,1,2,3],4),([],5),([5],6),([5,6],7),([],8),([8],9),([5,6,7,8,9],10),([0,1,2,3,4,5,6,7,8,9,10],11),([0,1,2,3,4,5,6,7,8,9,10,11],12)] 11 ?_ | refine sD tOK tmix [([],4),([],5),([1],6),([],0),([],7),([4],8),([],9),([4,5,6],10),([3,4,5,6,7],1),([],11),([1,2,3,4,5,6,7,8,9],12),([1,2,3,4,5,6,7,8,9,10],2),([0,1,2,3,4,5,6,7,8,9,10,11],3),([0,1,2,3,4,5,6,7,8,9,10,11,12],13)] 12 ?_ | refine qD _ ?_ ?_)
 refine ⟨fun b => b != 99, .tup [], _, rfl, keep_row (r := 0) (m := 99) (ys := [.agg 57 [i64 d.room, .lit [], i64 (-1), i64 0]]) (by decide) rfl rfl, ?_⟩
 refine h _ (.nil (by rw [h0']; rfl) ?_)
 simp
theorem allL_i64 (q : Nat → Bool) (l : List Int) : allL q (l.map i64) = true := allL_pure q _ (pureL_map _ (fun _ => rfl) l)
theorem renL_i64 (r : Nat → Nat) (l : List Int) : renL r (l.map i64) = l.map i64 := renL_pure r _ (pureL_map _ (fun _ => rfl) l)
theorem R_crash_at {keep : List Int} (h0 : RdAt σ i d) (hI : Inv d) (hS : srt d.files) (hk : ∀ k ∈ keep, k ≤ 9223372036854775807) (hkl : keep.length ≤ 9223372036854775807) (h : ∀ σ', RdAt σ' i (crash d keep) → Kept σ σ' i d → R (.ret (.tup [])) σ') : C tE 36 [.ptr i 0 0 [], .lit (keep.map i64)] σ R := by
 rw [crash_eq hS] at h
 exact R_put_at (args := [.ptr 0 0 0 [], .lit (keep.map i64)]) h0 (by simp [allL, allB, allL_i64]) (by simp [allL, allB, allL_i64]) (fun r hr => by simp [renL, ren, hr, renL_i64]) (fun r => rfl)
  (fun R g h => R_crash hI hk hkl fun σ' hσ => h _ rfl σ' hσ) (fun h0' R h => R_crash_0 h0' fun σ' hσ => h _ rfl σ' hσ) h
end
end Go.Proofs.YtdplbgfokoajjaaGreat
end
section
set_option linter.unusedVariables false
set_option linter.unusedSimpArgs false
set_option maxRecDepth 20000
namespace Go.Proofs.YtdplbgfokoajjaaGreat
open Go
attribute [-simp] List.map_set
section
variable {N : Nat} {Q : Post} {fr : Fr} {σ : Store} {d : Dk} {P0 P1 : Blk}
theorem T_disk {c : Code} {fr' : Fr} (ts : List Nat) (h0 : σ[0]? = some (some P0)) (h1 : σ[1]? = some (some P1)) (hr : RdAt σ 2 d) (hq0 : ∀ g, P0 ≠ .cells 74 g (d.files.map eF)) (hq1 : ∀ g, P1 ≠ .cells 74 g (d.files.map eF))
  (hp : ∀ (r : Nat → Nat), r 0 = 0 → r 1 = 1 → renBlk r P0 = P0 ∧ renBlk r P1 = P1) (hall : ∀ n, 2 ≤ n → allBlk (fun b => decide (b < n)) P0 = true ∧ allBlk (fun b => decide (b < n)) P1 = true)
  (hfr : Fr.keep ts fr = fr') (hren : ∀ (r : Nat → Nat), r 0 = 0 → r 1 = 1 → r 2 = 2 → fr'.map (fun p => (p.1, ren r p.2)) = fr') (hb : ∀ n, 3 ≤ n → (fr'.all fun p => allB (fun b => decide (b < n)) p.2) = true)
  (hA : d.files = [] → T tE N 0 c Q fr' [some P0, some P1, some (rSt d (.lit []))])
  (hB : ∀ g, T tE N 0 c Q fr' [some P0, some P1, some (rSt d (.ref 3 g 0 d.files.length)), some (.cells 74 g (d.files.map eF))]) : T tE N 0 c Q fr σ := by
 cases hr with
 | nil e st =>
  refine T_renz tOK (fr' := fr') (σ' := [some P0, some P1, some (rSt d (.lit []))]) [0, 1, 2] ts (by decide) rfl (Nat.zero_le _) (fun i hi => by omega) (by rw [hren _ rfl rfl rfl]; exact hfr) (hb 3 (Nat.le_refl _)) ?_ (fun i hi => ?_) (hA e)
  ·have := hall 3 (by decide)
   simpa [allStore, allBlk, allL, allB] using this
  ·have hpp := hp (nth [0, 1, 2]) rfl rfl
   have hi : i = 0 ∨ i = 1 ∨ i = 2 := by simp at hi; omega
   rcases hi with rfl | rfl | rfl
   ·simp [nth, renStore, h0]; exact hpp.1.symm
   ·simp [nth, renStore, h1]; exact hpp.2.symm
   ·simp [nth, renStore, st, ren_rdA]
 | row l g ne st ls =>
  have l0 : l ≠ 0 := fun e => by subst e; rw [h0] at ls; cases ls; exact hq0 g rfl
  have l1 : l ≠ 1 := fun e => by subst e; rw [h1] at ls; cases ls; exact hq1 g rfl
  refine T_renz tOK (fr' := fr') (σ' := [some P0, some P1, some (rSt d (.ref 3 g 0 d.files.length)), some (.cells 74 g (d.files.map eF))]) [0, 1, 2, l] ts (by simp; omega) rfl (Nat.zero_le _) (fun i hi => by omega) (by rw [hren _ rfl rfl rfl]; exact hfr) (hb 4 (by decide)) ?_ (fun i hi => ?_) (hB g)
  ·have := hall 4 (by decide)
   simpa [allStore, allBlk, allL, allB, allL_eF] using this
  ·have hpp := hp (nth [0, 1, 2, l]) rfl rfl
   have hi : i = 0 ∨ i = 1 ∨ i = 2 ∨ i = 3 := by simp at hi; omega
   rcases hi with rfl | rfl | rfl | rfl
   ·simp [nth, renStore, h0]; exact hpp.1.symm
   ·simp [nth, renStore, h1]; exact hpp.2.symm
   ·simp [nth, renStore, st, ren_rSt]
   ·simp [nth, renStore, ls, ren_row, renL_eF]
end
end Go.Proofs.YtdplbgfokoajjaaGreat
end
section
set_option linter.unusedVariables false
set_option linter.unusedSimpArgs false
set_option maxRecDepth 20000
namespace Go.Proofs.YtdplbgfokoajjaaGreat
open Go
attribute [local irreducible] T TL C RG DP SP YR afterRG DPcall
attribute [-simp] List.map_set
theorem srt_doOp {d : Dk} {o : OpV} (h : srt d.files) : srt (doOp d o).2.files := by
 unfold doOp
 split
 ·exact srt_sync h
 split
 ·exact srt_rename h
 split
 ·exact srt_delete h
 split
 ·exact h
 split
 ·exact h
 split
 ·exact srt_crash h
 exact srt_write h
theorem row_ne {σ : Store} {i j l g : Nat} {d e : Dk} (h0 : DkAt σ i j e) (ls : σ[l]? = some (some (.cells 74 g (d.files.map eF)))) : l ≠ i ∧ l ≠ j := by
 constructor
 ·rintro rfl
  rw [h0.st] at ls; cases ls
 ·rintro rfl
  rw [h0.mp] at ls; cases ls
theorem RdAt.dk {σ : Store} {i j k : Nat} {d e e' : Dk} (h : RdAt σ k d) (h0 : DkAt σ i j e) (h1 : k ≠ i) (h2 : k ≠ j) : RdAt (dkPut σ i j e') k d := by
 cases h with
 | nil h0' st => exact .nil h0' (by rw [dkPut_other _ _ (Ne.symm h1) (Ne.symm h2)]; exact st)
 | row l g ne st ls =>
  have hl := row_ne h0 ls
  exact .row l g ne (by rw [dkPut_other _ _ (Ne.symm h1) (Ne.symm h2)]; exact st) (by rw [dkPut_other _ _ (Ne.symm hl.1) (Ne.symm hl.2)]; exact ls)
theorem DkAt.kept {σ σ' : Store} {i j k : Nat} {d e : Dk} (h0 : DkAt σ i j e) (h : Kept σ σ' k d) (h1 : k ≠ i) (h2 : k ≠ j) : DkAt σ' i j e := by
 obtain ⟨l, hl, hk⟩ := h
 have hne : l ≠ i ∧ l ≠ j := by
  rcases hl with rfl | ⟨g, ls⟩
  ·exact ⟨h1, h2⟩
  ·exact row_ne h0 ls
 refine ⟨h0.ne, ?_, ?_⟩
 ·rw [hk i (getElem?_lt h0.st) (Ne.symm h1) (Ne.symm hne.1)]; exact h0.st
 ·rw [hk j (getElem?_lt h0.mp) (Ne.symm h2) (Ne.symm hne.2)]; exact h0.mp
theorem what_cases (w : Int) : w = 3 ∨ w = 4 ∨ w = 5 ∨ w = 6 ∨ w = 7 ∨ w = 8 ∨ w = 9 ∨ ((w == 3) = false ∧ (w == 4) = false ∧ (w == 5) = false ∧ (w == 6) = false ∧ (w == 7) = false ∧ (w == 8) = false ∧ (w == 9) = false) := by
 simp only [beq_eq_false_iff_ne]; omega
section
variable {R : Re → Store → Prop} {σ : Store} {d : Dk} {o : OpV} {i : Nat}
set_option maxHeartbeats 4000000 in
theorem R_plainB {g : Nat} (h0' : rdB g d = rdA d → d.files = []) (hI : Inv d) (hS : srt d.files) (ho : o.OK) (h : ∀ d', (doOp d o).2 = d' → ∀ σ', RdAt σ' 0 d' → R (.ret (i64 (doOp d o).1)) σ') : C tE 9 [.ptr 0 0 0 [], encOp o] (rdB g d) R := by
 have h16 : (maxLen : Nat) ≤ 9223372036854775807 := by decide
 obtain ⟨w, s, t, b, n, keep⟩ := o
 have k1 := ho.name
 have k2 := ho.to
 have k3 := ho.keep
 have k4 := ho.keepl
 have k5 := ho.b
 simp only at k1 k2 k3 k4 k5
 unfold encOp ints
 unfold doOp at h
 simp only at h ⊢
 try (replace h0' := h0' rfl)
 refine s_body' Tryz.func9 tOK rfl (by conv => lhs; simp) (by conv => lhs; simp) (by conv => lhs; simp [Fr.args]) rfl (by conv => lhs; try simp) fun R9 hR9 => ?_
 rcases what_cases w with rfl | rfl | rfl | rfl | rfl | rfl | rfl | ⟨e3, e4, e5, e6, e7, e8, e9⟩
 ·repeat' (first | refine go ?_ | refine s_seq fun y9 hy9 => ?_ | refine qT _ ?_ ?_ | refine qG _ ?_ ?_ | refine qN ?_ ?_ | (refine QB.mk fun hb9 => ?_; (try simp only [hb9]); (try simp at hb9); first | (exfalso; omega) | subst hb9 | skip))
  refine R_sync_at (.row 1 g (by decide) rfl rfl) hI hS ?_
  intro σ' r1 _
  repeat' (first | refine go ?_ | refine s_seq fun y9 hy9 => ?_ | refine qT _ ?_ ?_ | refine qG _ ?_ ?_ | refine qN ?_ ?_ | (refine QB.mk fun hb9 => ?_; (try simp only [hb9]); (try simp at hb9); first | (exfalso; omega) | subst hb9 | skip))
  exact h _ rfl _ r1
 ·repeat' (first | refine go ?_ | refine s_seq fun y9 hy9 => ?_ | refine qT _ ?_ ?_ | refine qG _ ?_ ?_ | refine qN ?_ ?_ | (refine QB.mk fun hb9 => ?_; (try simp only [hb9]); (try simp at hb9); first | (exfalso; omega) | subst hb9 | skip))
  refine R_sync_at (.row 1 g (by decide) rfl rfl) hI hS ?_
  intro σ' r1 _
  repeat' (first | refine go ?_ | refine s_seq fun y9 hy9 => ?_ | refine qT _ ?_ ?_ | refine qG _ ?_ ?_ | refine qN ?_ ?_ | (refine QB.mk fun hb9 => ?_; (try simp only [hb9]); (try simp at hb9); first | (exfalso; omega) | subst hb9 | skip))
  exact h _ rfl _ r1
 ·repeat' (first | refine go ?_ | refine s_seq fun y9 hy9 => ?_ | refine qT _ ?_ ?_ | refine qG _ ?_ ?_ | refine qN ?_ ?_ | (refine QB.mk fun hb9 => ?_; (try simp only [hb9]); (try simp at hb9); first | (exfalso; omega) | subst hb9 | skip))
  refine R_rename_at (.row 1 g (by decide) rfl rfl) hI hS (by omega) ?_
  intro σ' r1 _
  repeat' (first | refine go ?_ | refine s_seq fun y9 hy9 => ?_ | refine qT _ ?_ ?_ | refine qG _ ?_ ?_ | refine qN ?_ ?_ | (refine QB.mk fun hb9 => ?_; (try simp only [hb9]); (try simp at hb9); first | (exfalso; omega) | subst hb9 | skip))
  exact h _ rfl _ r1
 ·repeat' (first | refine go ?_ | refine s_seq fun y9 hy9 => ?_ | refine qT _ ?_ ?_ | refine qG _ ?_ ?_ | refine qN ?_ ?_ | (refine QB.mk fun hb9 => ?_; (try simp only [hb9]); (try simp at hb9); first | (exfalso; omega) | subst hb9 | skip))
  refine R_delete_at (.row 1 g (by decide) rfl rfl) hI hS ?_
  intro σ' r1 _
  repeat' (first | refine go ?_ | refine s_seq fun y9 hy9 => ?_ | refine qT _ ?_ ?_ | refine qG _ ?_ ?_ | refine qN ?_ ?_ | (refine QB.mk fun hb9 => ?_; (try simp only [hb9]); (try simp at hb9); first | (exfalso; omega) | subst hb9 | skip))
  exact h _ rfl _ r1
 ·repeat' (first | refine go ?_ | refine s_seq fun y9 hy9 => ?_ | refine qT _ ?_ ?_ | refine qG _ ?_ ?_ | refine qN ?_ ?_ | (refine QB.mk fun hb9 => ?_; (try simp only [hb9]); (try simp at hb9); first | (exfalso; omega) | subst hb9 | skip))
  refine R_fuse_at (.row 1 g (by decide) rfl rfl) ?_
  intro σ' r1 _
  repeat' (first | refine go ?_ | refine s_seq fun y9 hy9 => ?_ | refine qT _ ?_ ?_ | refine qG _ ?_ ?_ | refine qN ?_ ?_ | (refine QB.mk fun hb9 => ?_; (try simp only [hb9]); (try simp at hb9); first | (exfalso; omega) | subst hb9 | skip))
  exact h _ rfl _ r1
 ·repeat' (first | refine go ?_ | refine s_seq fun y9 hy9 => ?_ | refine qT _ ?_ ?_ | refine qG _ ?_ ?_ | refine qN ?_ ?_ | (refine QB.mk fun hb9 => ?_; (try simp only [hb9]); (try simp at hb9); first | (exfalso; omega) | subst hb9 | skip))
  refine R_fail_at (.row 1 g (by decide) rfl rfl) ?_
  intro σ' r1 _
  repeat' (first | refine go ?_ | refine s_seq fun y9 hy9 => ?_ | refine qT _ ?_ ?_ | refine qG _ ?_ ?_ | refine qN ?_ ?_ | (refine QB.mk fun hb9 => ?_; (try simp only [hb9]); (try simp at hb9); first | (exfalso; omega) | subst hb9 | skip))
  exact h _ rfl _ r1
 ·repeat' (first | refine go ?_ | refine s_seq fun y9 hy9 => ?_ | refine qT _ ?_ ?_ | refine qG _ ?_ ?_ | refine qN ?_ ?_ | (refine QB.mk fun hb9 => ?_; (try simp only [hb9]); (try simp at hb9); first | (exfalso; omega) | subst hb9 | skip))
  refine R_crash_at (.row 1 g (by decide) rfl rfl) hI hS k3 k4 ?_
  intro σ' r1 _
  repeat' (first | refine go ?_ | refine s_seq fun y9 hy9 => ?_ | refine qT _ ?_ ?_ | refine qG _ ?_ ?_ | refine qN ?_ ?_ | (refine QB.mk fun hb9 => ?_; (try simp only [hb9]); (try simp at hb9); first | (exfalso; omega) | subst hb9 | skip))
  exact h _ rfl _ r1
 ·simp only [e3, e4, e5, e6, e7, e8, e9, Bool.or_self, Bool.false_eq_true, if_false] at h
  have F9 := And.intro @e3 <| And.intro @e4 <| And.intro @e5 <| And.intro @e6 <| And.intro @e7 <| And.intro @e8 <| @e9
  repeat' (first | refine gf ?_ | refine s_seq fun y9 hy9 => ?_ | refine qT _ ?_ ?_ | refine qG _ ?_ ?_ | refine qN ?_ ?_ | (refine QB.mk fun hb9 => ?_; (try simp only [hb9]); (try simp at hb9); first | (exfalso; omega) | subst hb9 | skip))
  refine R_write_at (.row 1 g (by decide) rfl rfl) hI hS (by omega) k5 ?_
  intro σ' r1 _
  repeat' (first | refine go ?_ | refine s_seq fun y9 hy9 => ?_ | refine qT _ ?_ ?_ | refine qG _ ?_ ?_ | refine qN ?_ ?_ | (refine QB.mk fun hb9 => ?_; (try simp only [hb9]); (try simp at hb9); first | (exfalso; omega) | subst hb9 | skip))
  exact h _ rfl _ r1
set_option maxHeartbeats 4000000 in
theorem R_plainA {g : Nat} (h0' : rdA d = rdA d → d.files = []) (hI : Inv d) (hS : srt d.files) (ho : o.OK) (h : ∀ d', (doOp d o).2 = d' → ∀ σ', RdAt σ' 0 d' → R (.ret (i64 (doOp d o).1)) σ') : C tE 9 [.ptr 0 0 0 [], encOp o] (rdA d) R := by
 have h16 : (maxLen : Nat) ≤ 9223372036854775807 := by decide
 obtain ⟨w, s, t, b, n, keep⟩ := o
 have k1 := ho.name
 have k2 := ho.to
 have k3 := ho.keep
 have k4 := ho.keepl
 have k5 := ho.b
 simp only at k1 k2 k3 k4 k5
 unfold encOp ints
 unfold doOp at h
 simp only at h ⊢
 try (replace h0' := h0' rfl)
 refine s_body' Tryz.func9 tOK rfl (by conv => lhs; simp) (by conv => lhs; simp) (by conv => lhs; simp [Fr.args]) rfl (by conv => lhs; try simp) fun R9 hR9 => ?_
 rcases what_cases w with rfl | rfl | rfl | rfl | rfl | rfl | rfl | ⟨e3, e4, e5, e6, e7, e8, e9⟩
 ·repeat' (first | refine go ?_ | refine s_seq fun y9 hy9 => ?_ | refine qT _ ?_ ?_ | refine qG _ ?_ ?_ | refine qN ?_ ?_ | (refine QB.mk fun hb9 => ?_; (try simp only [hb9]); (try simp at hb9); first | (exfalso; omega) | subst hb9 | skip))
  refine R_sync_at (.nil h0' rfl) hI hS ?_
  intro σ' r1 _
  repeat' (first | refine go ?_ | refine s_seq fun y9 hy9 => ?_ | refine qT _ ?_ ?_ | refine qG _ ?_ ?_ | refine qN ?_ ?_ | (refine QB.mk fun hb9 => ?_; (try simp only [hb9]); (try simp at hb9); first | (exfalso; omega) | subst hb9 | skip))
  exact h _ rfl _ r1
 ·repeat' (first | refine go ?_ | refine s_seq fun y9 hy9 => ?_ | refine qT _ ?_ ?_ | refine qG _ ?_ ?_ | refine qN ?_ ?_ | (refine QB.mk fun hb9 => ?_; (try simp only [hb9]); (try simp at hb9); first | (exfalso; omega) | subst hb9 | skip))
  refine R_sync_at (.nil h0' rfl) hI hS ?_
  intro σ' r1 _
  repeat' (first | refine go ?_ | refine s_seq fun y9 hy9 => ?_ | refine qT _ ?_ ?_ | refine qG _ ?_ ?_ | refine qN ?_ ?_ | (refine QB.mk fun hb9 => ?_; (try simp only [hb9]); (try simp at hb9); first | (exfalso; omega) | subst hb9 | skip))
  exact h _ rfl _ r1
 ·repeat' (first | refine go ?_ | refine s_seq fun y9 hy9 => ?_ | refine qT _ ?_ ?_ | refine qG _ ?_ ?_ | refine qN ?_ ?_ | (refine QB.mk fun hb9 => ?_; (try simp only [hb9]); (try simp at hb9); first | (exfalso; omega) | subst hb9 | skip))
  refine R_rename_at (.nil h0' rfl) hI hS (by omega) ?_
  intro σ' r1 _
  repeat' (first | refine go ?_ | refine s_seq fun y9 hy9 => ?_ | refine qT _ ?_ ?_ | refine qG _ ?_ ?_ | refine qN ?_ ?_ | (refine QB.mk fun hb9 => ?_; (try simp only [hb9]); (try simp at hb9); first | (exfalso; omega) | subst hb9 | skip))
  exact h _ rfl _ r1
 ·repeat' (first | refine go ?_ | refine s_seq fun y9 hy9 => ?_ | refine qT _ ?_ ?_ | refine qG _ ?_ ?_ | refine qN ?_ ?_ | (refine QB.mk fun hb9 => ?_; (try simp only [hb9]); (try simp at hb9); first | (exfalso; omega) | subst hb9 | skip))
  refine R_delete_at (.nil h0' rfl) hI hS ?_
  intro σ' r1 _
  repeat' (first | refine go ?_ | refine s_seq fun y9 hy9 => ?_ | refine qT _ ?_ ?_ | refine qG _ ?_ ?_ | refine qN ?_ ?_ | (refine QB.mk fun hb9 => ?_; (try simp only [hb9]); (try simp at hb9); first | (exfalso; omega) | subst hb9 | skip))
  exact h _ rfl _ r1
 ·repeat' (first | refine go ?_ | refine s_seq fun y9 hy9 => ?_ | refine qT _ ?_ ?_ | refine qG _ ?_ ?_ | refine qN ?_ ?_ | (refine QB.mk fun hb9 => ?_; (try simp only [hb9]); (try simp at hb9); first | (exfalso; omega) | subst hb9 | skip))
  refine R_fuse_at (.nil h0' rfl) ?_
  intro σ' r1 _
  repeat' (first | refine go ?_ | refine s_seq fun y9 hy9 => ?_ | refine qT _ ?_ ?_ | refine qG _ ?_ ?_ | refine qN ?_ ?_ | (refine QB.mk fun hb9 => ?_; (try simp only [hb9]); (try simp at hb9); first | (exfalso; omega) | subst hb9 | skip))
  exact h _ rfl _ r1
 ·repeat' (first | refine go ?_ | refine s_seq fun y9 hy9 => ?_ | refine qT _ ?_ ?_ | refine qG _ ?_ ?_ | refine qN ?_ ?_ | (refine QB.mk fun hb9 => ?_; (try simp only [hb9]); (try simp at hb9); first | (exfalso; omega) | subst hb9 | skip))
  refine R_fail_at (.nil h0' rfl) ?_
  intro σ' r1 _
  repeat' (first | refine go ?_ | refine s_seq fun y9 hy9 => ?_ | refine qT _ ?_ ?_ | refine qG _ ?_ ?_ | refine qN ?_ ?_ | (refine QB.mk fun hb9 => ?_; (try simp only [hb9]); (try simp at hb9); first | (exfalso; omega) | subst hb9 | skip))
  exact h _ rfl _ r1
 ·repeat' (first | refine go ?_ | refine s_seq fun y9 hy9 => ?_ | refine qT _ ?_ ?_ | refine qG _ ?_ ?_ | refine qN ?_ ?_ | (refine QB.mk fun hb9 => ?_; (try simp only [hb9]); (try simp at hb9); first | (exfalso; omega) | subst hb9 | skip))
  refine R_crash_at (.nil h0' rfl) hI hS k3 k4 ?_
  intro σ' r1 _
  repeat' (first | refine go ?_ | refine s_seq fun y9 hy9 => ?_ | refine qT _ ?_ ?_ | refine qG _ ?_ ?_ | refine qN ?_ ?_ | (refine QB.mk fun hb9 => ?_; (try simp only [hb9]); (try simp at hb9); first | (exfalso; omega) | subst hb9 | skip))
  exact h _ rfl _ r1
 ·simp only [e3, e4, e5, e6, e7, e8, e9, Bool.or_self, Bool.false_eq_true, if_false] at h
  have F9 := And.intro @e3 <| And.intro @e4 <| And.intro @e5 <| And.intro @e6 <| And.intro @e7 <| And.intro @e8 <| @e9
  repeat' (first | refine gf ?_ | refine s_seq fun y9 hy9 => ?_ | refine qT _ ?_ ?_ | refine qG _ ?_ ?_ | refine qN ?_ ?_ | (refine QB.mk fun hb9 => ?_; (try simp only [hb9]); (try simp at hb9); first | (exfalso; omega) | subst hb9 | skip))
  refine R_write_at (.nil h0' rfl) hI hS (by omega) k5 ?_
  intro σ' r1 _
  repeat' (first | refine go ?_ | refine s_seq fun y9 hy9 => ?_ | refine qT _ ?_ ?_ | refine qG _ ?_ ?_ | refine qN ?_ ?_ | (refine QB.mk fun hb9 => ?_; (try simp only [hb9]); (try simp at hb9); first | (exfalso; omega) | subst hb9 | skip))
  exact h _ rfl _ r1
theorem R_plain_at (h0 : RdAt σ i d) (hI : Inv d) (hS : srt d.files) (ho : o.OK) (h : ∀ σ', RdAt σ' i (doOp d o).2 → Kept σ σ' i d → R (.ret (i64 (doOp d o).1)) σ') : C tE 9 [.ptr i 0 0 [], encOp o] σ R :=
 R_put_at (args := [.ptr 0 0 0 [], encOp o]) h0 (by simp [allL, allB, encOp, ints, allL_u8l, allL_i64]) (by simp [allL, allB, encOp, ints, allL_u8l, allL_i64]) (fun r hr => by simp [renL, ren, hr, encOp, ints, renL_u8l, renL_i64]) (fun r => rfl)
  (fun R g h => R_plainB (fun hh => by simp [rdB, rdA] at hh) hI hS ho h) (fun h0' R h => R_plainA (g := 0) (fun _ => h0') hI hS ho h) h
end
end Go.Proofs.YtdplbgfokoajjaaGreat
end
