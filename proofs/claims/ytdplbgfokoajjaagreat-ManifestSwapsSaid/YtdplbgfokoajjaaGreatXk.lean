/- The document's disk: encodings, where a file is. -/
import Derived.Test.YtdplbgfokoajjaaGreatXh
import Derived.Test.YtdplbgfokoajjaaGreatXj
import Derived.Test.YtdplbgfokoajjaaGreatXe
import Derived.Laws.RangeString
import Derived.Laws.RangeAny
section
set_option linter.unusedVariables false
set_option linter.unusedSimpArgs false
set_option maxRecDepth 20000
namespace Go.Proofs.YtdplbgfokoajjaaGreat
open Go
attribute [local irreducible] T TL C RG DP SP YR afterRG DPcall
attribute [-simp] List.map_set
instance : Inhabited Fl := ⟨⟨[], 0⟩⟩
attribute [simp] map_take belowL_app
@[simp high] theorem fz_u8l (σ : Store) (n : Nat) (l : List UInt8) : (u8l l).mapM (frz σ (n + 1)) = some (u8l l) := mapM_same fun x hx => frz_u8l σ n x hx
@[simp] theorem bl_u8l (n : Nat) (l : List UInt8) : belowL n (u8l l) = true := belowL_of_pure n _ (pl_u8l l)
abbrev tx (n : List UInt8) : ByteArray := ⟨n.toArray⟩
abbrev eF (p : List UInt8 × Fl) : PV := .agg 74 [.str (tx p.1), .lit (u8l p.2.b), i64 p.2.last]
@[simp high] theorem fz_eF (σ : Store) (n : Nat) (l : List (List UInt8 × Fl)) : (l.map eF).mapM (frz σ (n + 2)) = some (l.map eF) := fz_list eF (fun a => by simp [frz]) l
@[simp high] theorem af_eF (l : List (List UInt8 × Fl)) : (l.map eF).all (fits tE 74) = true := all_fits eF (fun a => by simp [fits]) l
@[simp ↓ high] theorem mf_eF (l : List (List UInt8 × Fl)) : (∀ x ∈ l.map eF, fits tE 74 x = true) = True := mem_fits eF (fun a => by simp [fits]) l
@[simp high] theorem pl_eF (l : List (List UInt8 × Fl)) : pureL (l.map eF) = true := pureL_map eF (fun a => by simp [pureB, pureL]) l
@[simp] theorem bl_eF (n : Nat) (l : List (List UInt8 × Fl)) : belowL n (l.map eF) = true := belowL_of_pure n _ (pl_eF l)
theorem tk_eF (l : List (List UInt8 × Fl)) (n : Nat) : (l.map eF).take n = (l.take n).map eF := by rw [List.map_take]
theorem dr_eF (l : List (List UInt8 × Fl)) (n : Nat) : (l.map eF).drop n = (l.drop n).map eF := by rw [List.map_drop]
@[simp ↓ high] theorem mft_eF (l : List (List UInt8 × Fl)) (n : Nat) : (∀ x ∈ (l.map eF).take n, fits tE 74 x = true) = True := by rw [tk_eF]; exact mf_eF _
@[simp ↓ high] theorem mfd_eF (l : List (List UInt8 × Fl)) (n : Nat) : (∀ x ∈ (l.map eF).drop n, fits tE 74 x = true) = True := by rw [dr_eF]; exact mf_eF _
@[simp ↓ high] theorem mfdt_eF (l : List (List UInt8 × Fl)) (n m : Nat) : (∀ x ∈ ((l.map eF).take m).drop n, fits tE 74 x = true) = True := by rw [tk_eF, dr_eF]; exact mf_eF _
@[simp ↓ high] theorem mftd_eF (l : List (List UInt8 × Fl)) (n m : Nat) : (∀ x ∈ ((l.map eF).drop m).take n, fits tE 74 x = true) = True := by rw [dr_eF, tk_eF]; exact mf_eF _
abbrev rSt (d : Dk) (L : PV) : Blk := .cells 57 0 [.agg 57 [i64 d.room, L, i64 d.fuse, i64 d.fail]]
abbrev rdB (g : Nat) (d : Dk) : Store := [some (rSt d (.ref 1 g 0 d.files.length)), some (.cells 74 g (d.files.map eF))]
abbrev rdA (d : Dk) : Store := [some (rSt d (.lit []))]
def pos (n : List UInt8) (l : List (List UInt8 × Fl)) : Option Nat := l.findIdx? fun p => p.1 == n
def posI (n : List UInt8) (l : List (List UInt8 × Fl)) : Int := (pos n l).elim (-1) fun i => (i : Int)
theorem pos_cons (n : List UInt8) (p : List UInt8 × Fl) (l : List (List UInt8 × Fl)) : pos n (p :: l) = if p.1 == n then some 0 else (pos n l).map (· + 1) := by
 unfold pos; rw [List.findIdx?_cons]
theorem pos_at {n : List UInt8} {l : List (List UInt8 × Fl)} {j : Nat} (hj : j < l.length) (h : ∀ k, k < j → ((gt l k).1 == n) = false) (he : ((gt l j).1 == n) = true) : posI n l = j := by
 have : pos n l = some j := by
  unfold pos
  rw [List.findIdx?_eq_some_iff_getElem]
  refine ⟨hj, by simpa [gt, hj] using he, fun k hk => ?_⟩
  have := h k hk
  simpa [gt, Nat.lt_trans hk hj] using this
 rw [posI, this]; rfl
theorem pos_no {n : List UInt8} {l : List (List UInt8 × Fl)} (h : ∀ k, k < l.length → ((gt l k).1 == n) = false) : posI n l = -1 := by
 have : pos n l = none := by
  unfold pos
  rw [List.findIdx?_eq_none_iff]
  intro p hp
  obtain ⟨k, hk, rfl⟩ := List.getElem_of_mem hp
  have := h k hk
  simpa [gt, hk] using this
 rw [posI, this]; rfl
theorem beq_arr (l : List UInt8) (s : ByteArray) : (l.toArray == s.data) = (l == s.data.toList) := by
 rw [Bool.eq_iff_iff, beq_iff_eq, beq_iff_eq]
 constructor
 ·intro h; rw [← h]
 ·rintro rfl; rfl
theorem tx_beq (l : List UInt8) (s : ByteArray) : decide (tx l = s) = (l == s.data.toList) := by
 rw [Bool.eq_iff_iff, decide_eq_true_eq, beq_iff_eq]
 constructor
 ·intro h; rw [← h]
 ·rintro h; rw [h]
section
variable {R : Re → Store → Prop} {d : Dk} {n : Int} {g : Nat}
theorem R_at {s : ByteArray} (hl : d.files.length < 1000000) (h : R (.ret (i64 (posI s.data.toList d.files))) (rdB g d)) : C tE 51 [.ptr 0 0 0 [], .str s] (rdB g d) R := by
 refine s_body' Tryz.func51 tOK rfl (by conv => lhs; simp) (by conv => lhs; simp) (by conv => lhs; simp [Fr.args]) rfl (by conv => lhs; try simp) fun R9 hR9 => ?_
 repeat' (first | refine go ?_ | refine s_seq fun y9 hy9 => ?_ | refine qT _ ?_ ?_ | refine qG _ ?_ ?_ | refine qN ?_ ?_ | (refine QB.mk fun hb9 => ?_; (try simp only [hb9]); (try simp at hb9); first | (exfalso; omega) | subst hb9 | skip))
 refine s_loop fun c9 hc9 => ?_
 refine w_trim 2 [0, 1, 5] (by conv => lhs; simp) (by conv => lhs; simp) (by first | rfl | simp) (by first | rfl | simp) ?_
 refine s_loopn (d.files.length) (fun j fr σ => fr = [(0, .ptr 0 0 0 []), (1, .str s), (5, i64 j)] ∧ σ = rdB g d ∧ (∀ k : Nat, k < j → ((gt d.files k).1 == s.data.toList) = false)) ?_ ⟨by simp, by first | rfl | simp, by first | (intros; omega) | simp⟩
 rintro j fr σ hj ⟨rfl, rfl, hS⟩ ih
 refine s_round hc9 ?_
 clear hc9
 rcases Nat.lt_or_ge j d.files.length with hlt | hge
 ·cases he : (gt d.files j).1 == s.data.toList with
  | true =>
   rw [pos_at hlt hS he] at h
   have F9 := And.intro @he <| @bytes_toList
   repeat' (first | refine gf ?_ | refine s_seq fun y9 hy9 => ?_ | refine qT _ ?_ ?_ | refine qG _ ?_ ?_ | refine qN ?_ ?_ | (refine QB.mk fun hb9 => ?_; (try simp only [hb9]); (try simp at hb9); first | (exfalso; omega) | subst hb9 | skip))
   exact h
  | false =>
   have F9 := And.intro @he <| @bytes_toList
   repeat' (first | refine gf ?_ | refine s_seq fun y9 hy9 => ?_ | refine qT _ ?_ ?_ | refine qG _ ?_ ?_ | refine qN ?_ ?_ | (refine QB.mk fun hb9 => ?_; (try simp only [hb9]); (try simp at hb9); first | (exfalso; omega) | subst hb9 | skip))
   refine w_back 2 [0, 1, 5] (by conv => lhs; simp) (by conv => lhs; simp) (by first | rfl | simp) (by first | rfl | simp) ?_
   refine ih hlt _ _ ⟨by simp, rfl, fun k hk => ?_⟩
   rcases Nat.lt_or_ge k j with h1 | h1
   ·exact hS k h1
   ·rw [show k = j by omega]; exact he
 ·have hj : j = d.files.length := by omega
  subst hj
  rw [pos_no hS] at h
  repeat' (first | refine go ?_ | refine s_seq fun y9 hy9 => ?_ | refine qT _ ?_ ?_ | refine qG _ ?_ ?_ | refine qN ?_ ?_ | (refine QB.mk fun hb9 => ?_; (try simp only [hb9]); (try simp at hb9); first | (exfalso; omega) | subst hb9 | skip))
  exact h
end
theorem pos_some {n : List UInt8} : ∀ {l : List (List UInt8 × Fl)} {i : Nat}, pos n l = some i → i < l.length ∧ (gt l i).1 = n ∧ dget n l = some (gt l i).2
 | [], i, h => by simp [pos] at h
 | p :: l, i, h => by
  rw [pos_cons] at h
  cases hp : p.1 == n with
  | true =>
   rw [hp] at h; simp at h; subst h
   have e : p.1 = n := by simpa using hp
   exact ⟨by simp, by simpa [gt] using e, by simp [dget, hp, gt]⟩
  | false =>
   rw [hp] at h
   simp only [Bool.false_eq_true, if_false, Option.map_eq_some_iff] at h
   obtain ⟨j, hj, rfl⟩ := h
   obtain ⟨h0, h1, h2⟩ := pos_some hj
   exact ⟨by simpa using h0, by simpa [gt] using h1, by simpa [dget, hp, gt] using h2⟩
theorem pos_none {n : List UInt8} : ∀ {l : List (List UInt8 × Fl)}, pos n l = none → dget n l = none
 | [], h => rfl
 | p :: l, h => by
  rw [pos_cons] at h
  cases hp : p.1 == n with
  | true => rw [hp] at h; simp at h
  | false =>
   rw [hp] at h
   simp only [Bool.false_eq_true, if_false, Option.map_eq_none_iff] at h
   have := pos_none h
   simpa [dget, hp] using this
theorem posI_some {n : List UInt8} {l : List (List UInt8 × Fl)} {i : Nat} (h : pos n l = some i) : posI n l = i := by simp [posI, h]
theorem posI_none {n : List UInt8} {l : List (List UInt8 × Fl)} (h : pos n l = none) : posI n l = -1 := by simp [posI, h]
theorem used_succ {l : List (List UInt8 × Fl)} {j : Nat} (h : j < l.length) : used (l.take (j + 1)) = used (l.take j) + (gt l j).2.b.length := by
 rw [List.take_add_one, gq h]; simp [used]
theorem used_le (l : List (List UInt8 × Fl)) (j : Nat) : used (l.take j) ≤ used l := by
 have : used l = used (l.take j) + used (l.drop j) := by
  conv => lhs; rw [← List.take_append_drop j l]
  simp only [used, List.map_append, List.sum_append]
 omega
theorem n_ret {σ σ' : Store} {R : Re → Store → Prop} {x y : PV} (h0 : σ'.take σ.length = σ) (h1 : frzT σ.length σ' x = some y) (h : R (.ret y) σ) : newRe σ R (.ret x) σ' := newRe_ret h0 h1 h
theorem fn_u8l (k : Nat) (σ : Store) (n : Nat) {l : List UInt8} : ∀ x ∈ u8l l, frzN k σ (n + 1) x = some x := fun x hx => by
 obtain ⟨b, _, rfl⟩ := List.mem_map.1 hx; rfl
section
variable {R : Re → Store → Prop} {d : Dk} {n : Int} {g : Nat}
theorem R_used (hl : d.files.length < 1000000) (hu : used d.files < 1000000000) (h : R (.ret (i64 (used d.files))) (rdB g d)) : C tE 19 [.ptr 0 0 0 []] (rdB g d) R := by
 have hs := fun j h => used_succ (l := d.files) (j := j) h
 have hle := used_le d.files
 have hz : used (d.files.take 0) = 0 := rfl
 have hf : used (d.files.take d.files.length) = used d.files := by rw [List.take_length]
 generalize hU : (fun j => used (d.files.take j)) = U at *
 have hU' : ∀ j, used (d.files.take j) = U j := fun j => by rw [← hU]
 simp only [hU'] at hs hle hz hf
 refine s_body' Tryz.func19 tOK rfl (by conv => lhs; simp) (by conv => lhs; simp) (by conv => lhs; simp [Fr.args]) rfl (by conv => lhs; try simp) fun R9 hR9 => ?_
 repeat' (first | refine go ?_ | refine s_seq fun y9 hy9 => ?_ | refine qT _ ?_ ?_ | refine qG _ ?_ ?_ | refine qN ?_ ?_ | (refine QB.mk fun hb9 => ?_; (try simp only [hb9]); (try simp at hb9); first | (exfalso; omega) | subst hb9 | skip))
 refine s_loop fun c9 hc9 => ?_
 refine w_trim 2 [0, 3, 4] (by conv => lhs; simp) (by conv => lhs; simp) (by first | rfl | simp) (by first | rfl | simp) ?_
 refine s_loopn (d.files.length) (fun j fr σ => fr = [(0, .ptr 0 0 0 []), (3, i64 (U j)), (4, i64 j)] ∧ σ = rdB g d) ?_ ⟨by simp [hz], by first | rfl | simp [hz]⟩
 rintro j fr σ hj ⟨rfl, rfl⟩ ih
 have hsj := hs j
 have hl1 := hle j
 have hl2 := hle (j + 1)
 refine s_round hc9 ?_
 clear hc9
 rcases Nat.lt_or_ge j d.files.length with hlt | hge
 ·have hsj := hsj hlt
  repeat' (first | refine go ?_ | refine s_seq fun y9 hy9 => ?_ | refine qT _ ?_ ?_ | refine qG _ ?_ ?_ | refine qN ?_ ?_ | (refine QB.mk fun hb9 => ?_; (try simp only [hb9]); (try simp at hb9); first | (exfalso; omega) | subst hb9 | skip))
  refine w_back 2 [0, 3, 4] (by conv => lhs; simp) (by conv => lhs; simp) (by first | rfl | simp) (by first | rfl | simp) ?_
  exact ih hlt _ _ ⟨by simp [hsj], rfl⟩
 ·have hj : j = d.files.length := by omega
  subst hj
  rw [← hf] at h
  repeat' (first | refine go ?_ | refine s_seq fun y9 hy9 => ?_ | refine qT _ ?_ ?_ | refine qG _ ?_ ?_ | refine qN ?_ ?_ | (refine QB.mk fun hb9 => ?_; (try simp only [hb9]); (try simp at hb9); first | (exfalso; omega) | subst hb9 | skip))
  exact h
theorem R_synced {s : ByteArray} (hl : d.files.length < 1000000) (h : R (.ret (i64 ((dget s.data.toList d.files).elim 0 (·.last)))) (rdB g d)) : C tE 21 [.ptr 0 0 0 [], .str s] (rdB g d) R := by
 have ca : ∀ {R : Re → Store → Prop}, R (.ret (i64 (posI s.data.toList d.files))) (rdB g d) → C tE 51 [.ptr 0 0 0 [], .str s] (rdB g d) R := fun h => R_at hl h
 refine s_body' Tryz.func21 tOK rfl (by conv => lhs; simp) (by conv => lhs; simp) (by conv => lhs; simp [Fr.args]) rfl (by conv => lhs; try simp) fun R9 hR9 => ?_
 cases hp : pos s.data.toList d.files with
 | none =>
  rw [pos_none hp] at h
  rw [posI_none hp] at ca
  repeat' (first | refine go ?_ | refine s_seq fun y9 hy9 => ?_ | refine qT _ ?_ ?_ | refine qG _ ?_ ?_ | refine qN ?_ ?_ | (refine QB.mk fun hb9 => ?_; (try simp only [hb9]); (try simp at hb9); first | (exfalso; omega) | subst hb9 | skip) | (refine nZ ?_; refine ca ?_))
  exact h
 | some i =>
  obtain ⟨h1, h2, h3⟩ := pos_some hp
  rw [h3] at h
  rw [posI_some hp] at ca
  repeat' (first | refine go ?_ | refine s_seq fun y9 hy9 => ?_ | refine qT _ ?_ ?_ | refine qG _ ?_ ?_ | refine qN ?_ ?_ | (refine QB.mk fun hb9 => ?_; (try simp only [hb9]); (try simp at hb9); first | (exfalso; omega) | subst hb9 | skip) | (refine nZ ?_; refine ca ?_))
  exact h
theorem R_call (hf : -1 ≤ d.fuse) (hf1 : d.fuse ≤ 9223372036854775807) {L : PV} {τ : Store} (h : R (.ret (.bool !(d.fuse == 0))) (some (rSt (if d.fuse = 0 then d else burn d) L) :: τ)) : C tE 65 [.ptr 0 0 0 []] (some (rSt d L) :: τ) R := by
 by_cases h0 : d.fuse = 0
 ·rw [if_pos h0] at h
  refine s_body' Tryz.func65 tOK rfl (by conv => lhs; simp) (by conv => lhs; simp) (by conv => lhs; simp [Fr.args]) rfl (by conv => lhs; try simp) fun R9 hR9 => ?_
  repeat' (first | refine go ?_ | refine s_seq fun y9 hy9 => ?_ | refine qT _ ?_ ?_ | refine qG _ ?_ ?_ | refine qN ?_ ?_ | (refine QB.mk fun hb9 => ?_; (try simp only [hb9]); (try simp at hb9); first | (exfalso; omega) | subst hb9 | skip))
  simpa [h0] using h
 ·rw [if_neg h0] at h
  have hb0 : (d.fuse == 0) = false := by rw [beq_eq_false_iff_ne]; exact h0
  rw [hb0] at h
  rcases Int.lt_or_le 0 d.fuse with h1 | h1
  ·have hb : burn d = { d with fuse := d.fuse - 1 } := by unfold burn; congr 1; omega
   rw [hb] at h
   refine s_body' Tryz.func65 tOK rfl (by conv => lhs; simp) (by conv => lhs; simp) (by conv => lhs; simp [Fr.args]) rfl (by conv => lhs; try simp) fun R9 hR9 => ?_
   repeat' (first | refine go ?_ | refine s_seq fun y9 hy9 => ?_ | refine qT _ ?_ ?_ | refine qG _ ?_ ?_ | refine qN ?_ ?_ | (refine QB.mk fun hb9 => ?_; (try simp only [hb9]); (try simp at hb9); first | (exfalso; omega) | subst hb9 | skip))
   exact h
  ·have hb : burn d = d := by
    have : d.fuse = -1 := by omega
    unfold burn; rw [this]; cases d; simp at this; subst this; rfl
   rw [hb] at h
   refine s_body' Tryz.func65 tOK rfl (by conv => lhs; simp) (by conv => lhs; simp) (by conv => lhs; simp [Fr.args]) rfl (by conv => lhs; try simp) fun R9 hR9 => ?_
   repeat' (first | refine go ?_ | refine s_seq fun y9 hy9 => ?_ | refine qT _ ?_ ?_ | refine qG _ ?_ ?_ | refine qN ?_ ?_ | (refine QB.mk fun hb9 => ?_; (try simp only [hb9]); (try simp at hb9); first | (exfalso; omega) | subst hb9 | skip))
   exact h
theorem R_read {s : ByteArray} (hl : d.files.length < 1000000) (hb : ∀ f, dget s.data.toList d.files = some f → f.b.length < 1000000000)
  (h : R (.ret (.tup [.lit (u8l ((dget s.data.toList d.files).elim [] (·.b))), .bool (dget s.data.toList d.files).isSome])) (rdB g d)) : C tE 46 [.ptr 0 0 0 [], .str s] (rdB g d) R := by
 have ca : ∀ {R : Re → Store → Prop}, R (.ret (i64 (posI s.data.toList d.files))) (rdB g d) → C tE 51 [.ptr 0 0 0 [], .str s] (rdB g d) R := fun h => R_at hl h
 refine C_new tOK ?_
 refine s_body' Tryz.func46 tOK rfl (by conv => lhs; simp) (by conv => lhs; simp) (by conv => lhs; simp [Fr.args]) rfl (by conv => lhs; try simp) fun R9 hR9 => ?_
 cases hp : pos s.data.toList d.files with
 | none =>
  rw [pos_none hp] at h
  rw [posI_none hp] at ca
  repeat' (first | refine go ?_ | refine s_seq fun y9 hy9 => ?_ | refine qT _ ?_ ?_ | refine qG _ ?_ ?_ | refine qN ?_ ?_ | (refine QB.mk fun hb9 => ?_; (try simp only [hb9]); (try simp at hb9); first | (exfalso; omega) | subst hb9 | skip) | (refine nZ ?_; refine ca ?_))
  exact n_ret rfl (y := .tup [.lit [], .bool false]) rfl h
 | some i =>
  obtain ⟨h1, h2, h3⟩ := pos_some hp
  have hb1 := hb _ h3
  rw [h3] at h
  rw [posI_some hp] at ca
  repeat' (first | refine go ?_ | refine s_seq fun y9 hy9 => ?_ | refine qT _ ?_ ?_ | refine qG _ ?_ ?_ | refine qN ?_ ?_ | (refine QB.mk fun hb9 => ?_; (try simp only [hb9]); (try simp at hb9); first | (exfalso; omega) | subst hb9 | skip) | (refine nZ ?_; refine ca ?_))
  refine n_ret (y := .tup [.lit (u8l (gt d.files i).2.b), .bool true]) rfl ?_ h
  simp only [frzT, List.mapM_cons, List.mapM_nil]
  rw [frzN_row' (xs := u8l (gt d.files i).2.b) (by simp) rfl (by simp) (fn_u8l _ _ _) (pl_u8l _)]
  rfl
end
inductive RdAt (σ : Store) (i : Nat) (d : Dk) : Prop
 | nil (h0 : d.files = []) (st : σ[i]? = some (some (rSt d (.lit []))))
 | row (l g : Nat) (ne : i ≠ l) (st : σ[i]? = some (some (rSt d (.ref l g 0 d.files.length)))) (ls : σ[l]? = some (some (.cells 74 g (d.files.map eF))))
def srt (l : List (List UInt8 × Fl)) : Prop := l.Pairwise fun p q => bytesBefore p.1 q.1 = true
theorem bb_irr : ∀ a : List UInt8, bytesBefore a a = false
 | [] => rfl
 | a :: l => by simp [bytesBefore, bb_irr l]
theorem bb_trans : ∀ {a b c : List UInt8}, bytesBefore a b = true → bytesBefore b c = true → bytesBefore a c = true
 | [], [], _, h, _ => by simp [bytesBefore] at h
 | [], _ :: _, [], _, h => by simp [bytesBefore] at h
 | [], _ :: _, _ :: _, _, _ => rfl
 | _ :: _, [], _, h, _ => by simp [bytesBefore] at h
 | _ :: _, _ :: _, [], _, h => by simp [bytesBefore] at h
 | a :: r, b :: s, c :: t, h1, h2 => by
  simp only [bytesBefore, Bool.or_eq_true, Bool.and_eq_true, decide_eq_true_eq, beq_iff_eq] at h1 h2 ⊢
  rcases h1 with h1 | ⟨rfl, h1⟩
  ·rcases h2 with h2 | ⟨rfl, h2⟩
   ·exact .inl (by have := UInt8.lt_trans h1 h2; exact this)
   ·exact .inl h1
  ·rcases h2 with h2 | ⟨rfl, h2⟩
   ·exact .inl h2
   ·exact .inr ⟨rfl, bb_trans h1 h2⟩
theorem bb_asymm {a b : List UInt8} (h : bytesBefore a b = true) : bytesBefore b a = false := by
 cases h1 : bytesBefore b a with
 | false => rfl
 | true => have := bb_trans h h1; rw [bb_irr] at this; cases this
theorem bb_tri : ∀ (a b : List UInt8), a = b ∨ bytesBefore a b = true ∨ bytesBefore b a = true
 | [], [] => .inl rfl
 | [], _ :: _ => .inr (.inl rfl)
 | _ :: _, [] => .inr (.inr rfl)
 | a :: r, b :: s => by
  simp only [bytesBefore, Bool.or_eq_true, Bool.and_eq_true, decide_eq_true_eq, beq_iff_eq, List.cons.injEq]
  rcases Nat.lt_trichotomy a.toNat b.toNat with h | h | h
  ·exact .inr (.inl (.inl h))
  ·have e : a = b := UInt8.toNat_inj.1 h
   subst e
   rcases bb_tri r s with h | h | h
   ·exact .inl ⟨rfl, h⟩
   ·exact .inr (.inl (.inr ⟨rfl, h⟩))
   ·exact .inr (.inr (.inr ⟨rfl, h⟩))
  ·exact .inr (.inr (.inl h))
theorem dput_set {n : List UInt8} {f : Fl} : ∀ {l : List (List UInt8 × Fl)} {i : Nat}, srt l → i < l.length → (gt l i).1 = n → dput n f l = l.set i (n, f)
 | [], i, _, h, _ => by simp at h
 | p :: l, i, hs, hi, he => by
  have hs2 := List.pairwise_cons.1 hs
  cases i with
  | zero =>
   have he : p.1 = n := by simpa [gt] using he
   subst he
   have hd : ddel p.1 (p :: l) = l := by
    unfold ddel
    simp only [List.filter_cons, beq_self_eq_true, Bool.not_true, Bool.false_eq_true, if_false]
    rw [List.filter_eq_self]
    intro q hq
    have := hs2.1 q hq
    simp only [Bool.not_eq_true', beq_eq_false_iff_ne]
    intro e; rw [e, bb_irr] at this; cases this
   unfold dput
   rw [hd]
   cases l with
   | nil => rfl
   | cons q l =>
    have := hs2.1 q (by simp)
    simp only [dins, Lit.before, this, if_true, List.set_cons_zero]
  | succ i =>
   have hi' : i < l.length := by simpa using hi
   have he' : (gt l i).1 = n := by simpa [gt] using he
   have hpn : bytesBefore p.1 n = true := by rw [← he']; exact hs2.1 _ (by simp [gt, hi'])
   have hne : (p.1 == n) = false := by
    rw [beq_eq_false_iff_ne]; intro e; rw [e, bb_irr] at hpn; cases hpn
   have ih := dput_set (f := f) hs2.2 hi' he'
   unfold dput at ih ⊢
   simp only [ddel, List.filter_cons, hne, Bool.not_false, if_true, dins, Lit.before, bb_asymm hpn, Bool.false_eq_true, if_false, List.set_cons_succ]
   rw [← ih]; rfl
theorem ddel_off {n : List UInt8} {l : List (List UInt8 × Fl)} (h : ∀ p ∈ l, p.1 ≠ n) : ddel n l = l := by
 unfold ddel
 rw [List.filter_eq_self]
 intro p hp
 simp only [Bool.not_eq_true', beq_eq_false_iff_ne]
 exact h p hp
theorem ddel_at {n : List UInt8} : ∀ {l : List (List UInt8 × Fl)} {i : Nat}, srt l → i < l.length → (gt l i).1 = n → ddel n l = l.take i ++ l.drop (i + 1)
 | [], i, _, h, _ => by simp at h
 | p :: l, i, hs, hi, he => by
  have hs2 := List.pairwise_cons.1 hs
  cases i with
  | zero =>
   have he : p.1 = n := by simpa [gt] using he
   subst he
   have := ddel_off (n := p.1) (l := l) fun q hq e => by
    have := hs2.1 q hq
    rw [e, bb_irr] at this; cases this
   unfold ddel at this ⊢
   simp [this]
  | succ i =>
   have hi' : i < l.length := by simpa using hi
   have he' : (gt l i).1 = n := by simpa [gt] using he
   have hpn : bytesBefore p.1 n = true := by rw [← he']; exact hs2.1 _ (by simp [gt, hi'])
   have hne : (p.1 == n) = false := by
    rw [beq_eq_false_iff_ne]; intro e; rw [e, bb_irr] at hpn; cases hpn
   have ih := ddel_at hs2.2 hi' he'
   unfold ddel at ih ⊢
   simp [hne, ih]
section
variable {R : Re → Store → Prop} {d : Dk} {n : Int} {g : Nat}
theorem R_fuse {L : PV} {τ : Store} (h : R (.ret (.tup [])) (some (rSt (setFuse d n) L) :: τ)) : C tE 34 [.ptr 0 0 0 [], i64 n] (some (rSt d L) :: τ) R := by
 unfold setFuse at h
 refine s_body' Tryz.func34 tOK rfl (by conv => lhs; simp) (by conv => lhs; simp) (by conv => lhs; simp [Fr.args]) rfl (by conv => lhs; try simp) fun R9 hR9 => ?_
 repeat' (first | refine go ?_ | refine s_seq fun y9 hy9 => ?_ | refine qT _ ?_ ?_ | refine qG _ ?_ ?_ | refine qN ?_ ?_ | (refine QB.mk fun hb9 => ?_; (try simp only [hb9]); (try simp at hb9); first | (exfalso; omega) | subst hb9 | skip))
 exact h
theorem R_fail {L : PV} {τ : Store} (h : R (.ret (.tup [])) (some (rSt (setFail d n) L) :: τ)) : C tE 35 [.ptr 0 0 0 [], i64 n] (some (rSt d L) :: τ) R := by
 unfold setFail at h
 refine s_body' Tryz.func35 tOK rfl (by conv => lhs; simp) (by conv => lhs; simp) (by conv => lhs; simp [Fr.args]) rfl (by conv => lhs; try simp) fun R9 hR9 => ?_
 repeat' (first | refine go ?_ | refine s_seq fun y9 hy9 => ?_ | refine qT _ ?_ ?_ | refine qG _ ?_ ?_ | refine qN ?_ ?_ | (refine QB.mk fun hb9 => ?_; (try simp only [hb9]); (try simp at hb9); first | (exfalso; omega) | subst hb9 | skip))
 exact h
theorem R_sync {s : ByteArray} (hI : Inv d) (hS : srt d.files) (h : ∀ d', (sync d s).2 = d' → ∀ σ', RdAt σ' 0 d' → R (.ret (i64 (sync d s).1)) σ') : C tE 31 [.ptr 0 0 0 [], .str s] (rdB g d) R := by
 have hn := hI.n
 have f0 := hI.fuse0
 have f1 := hI.fuse1
 have ca : ∀ {R : Re → Store → Prop}, R (.ret (i64 (posI s.data.toList d.files))) (rdB g (burn d)) → C tE 51 [.ptr 0 0 0 [], .str s] (rdB g (burn d)) R := fun h => R_at (d := burn d) (by show d.files.length < 1000000; omega) h
 have bf : (burn d).files = d.files := rfl
 have bl : (burn d).fail = d.fail := rfl
 unfold sync at h
 by_cases h0 : d.fuse = 0
 ·have cc : ∀ {R : Re → Store → Prop}, R (.ret (.bool false)) (rdB g d) → C tE 65 [.ptr 0 0 0 []] (rdB g d) R := fun h => R_call f0 f1 (by rw [if_pos h0]; simpa [h0] using h)
  rw [if_pos (by simpa using h0)] at h
  refine s_body' Tryz.func31 tOK rfl (by conv => lhs; simp) (by conv => lhs; simp) (by conv => lhs; simp [Fr.args]) rfl (by conv => lhs; try simp) fun R9 hR9 => ?_
  repeat' (first | refine go ?_ | refine s_seq fun y9 hy9 => ?_ | refine qT _ ?_ ?_ | refine qG _ ?_ ?_ | refine qN ?_ ?_ | (refine QB.mk fun hb9 => ?_; (try simp only [hb9]); (try simp at hb9); first | (exfalso; omega) | subst hb9 | skip) | refine sD tOK tmix [([],0),([0],1),([0,1],2),([0,1,2],3),([],4),([],5),([5],6),([5,6],7),([5,6,7],8),([],9),([5,6,7,8,9],10),([5,6,7,8,9,10],11),([5,6,7,8,9,10,11],12),([5,6,7,8,9,10,11,12],13),([0,1,2,3,4,5,6,7,8,9,10,11,12,13],14),([0,1,2,3,4,5,6,7,8,9,10,11,12,13,14],15),([0,1,2,3,4,5,6,7,8,9,10,11,12,13,14,15],16)] 14 ?_ | refine qD _ ?_ ?_ | (refine nZ ?_; refine cc ?_) | (apply d_call []; exact rfl; (solve | (conv => lhs; try simp)); (solve | exact rfl | simp); (solve | (conv => lhs; try simp)); intro τ hτ; refine nZ ?_; first | exact cc ⟨rfl, rfl⟩))
  exact h _ rfl _ (.row 1 g (by decide) rfl rfl)
 ·have hb0 : (d.fuse == 0) = false := by rw [beq_eq_false_iff_ne]; exact h0
  have cc : ∀ {R : Re → Store → Prop}, R (.ret (.bool true)) (rdB g (burn d)) → C tE 65 [.ptr 0 0 0 []] (rdB g d) R := fun h => R_call f0 f1 (by rw [if_neg h0, hb0]; exact h)
  rw [if_neg (by rw [hb0]; simp)] at h
  refine s_body' Tryz.func31 tOK rfl (by conv => lhs; simp) (by conv => lhs; simp) (by conv => lhs; simp [Fr.args]) rfl (by conv => lhs; try simp) fun R9 hR9 => ?_
  cases hp : pos s.data.toList d.files with
  | none =>
   rw [pos_none hp] at h
   rw [posI_none hp] at ca
   repeat' (first | refine go ?_ | refine s_seq fun y9 hy9 => ?_ | refine qT _ ?_ ?_ | refine qG _ ?_ ?_ | refine qN ?_ ?_ | (refine QB.mk fun hb9 => ?_; (try simp only [hb9]); (try simp at hb9); first | (exfalso; omega) | subst hb9 | skip) | refine sD tOK tmix [([],0),([0],1),([0,1],2),([0,1,2],3),([],4),([],5),([5],6),([5,6],7),([5,6,7],8),([],9),([5,6,7,8,9],10),([5,6,7,8,9,10],11),([5,6,7,8,9,10,11],12),([5,6,7,8,9,10,11,12],13),([0,1,2,3,4,5,6,7,8,9,10,11,12,13],14),([0,1,2,3,4,5,6,7,8,9,10,11,12,13,14],15),([0,1,2,3,4,5,6,7,8,9,10,11,12,13,14,15],16)] 14 ?_ | refine qD _ ?_ ?_ | (refine nZ ?_; first | refine cc ?_ | refine ca ?_) | (apply d_call []; exact rfl; (solve | (conv => lhs; try simp)); (solve | exact rfl | simp); (solve | (conv => lhs; try simp)); intro τ hτ; refine nZ ?_; first | exact cc ⟨rfl, rfl⟩ | exact ca ⟨rfl, rfl⟩))
   exact h _ rfl _ (.row 1 g (by decide) rfl rfl)
  | some i =>
   obtain ⟨h1, h2, h3⟩ := pos_some hp
   rw [h3] at h
   rw [posI_some hp] at ca
   have g0 := hI.fail0
   have g1 := hI.fail1
   by_cases hf : 0 < d.fail
   ·simp only [if_pos hf] at h
    have F9 := And.intro @bf <| @bl
    repeat' (first | refine gf ?_ | refine s_seq fun y9 hy9 => ?_ | refine qT _ ?_ ?_ | refine qG _ ?_ ?_ | refine qN ?_ ?_ | (refine QB.mk fun hb9 => ?_; (try simp only [hb9]); (try simp at hb9); first | (exfalso; omega) | subst hb9 | skip) | refine sD tOK tmix [([],0),([0],1),([0,1],2),([0,1,2],3),([],4),([],5),([5],6),([5,6],7),([5,6,7],8),([],9),([5,6,7,8,9],10),([5,6,7,8,9,10],11),([5,6,7,8,9,10,11],12),([5,6,7,8,9,10,11,12],13),([0,1,2,3,4,5,6,7,8,9,10,11,12,13],14),([0,1,2,3,4,5,6,7,8,9,10,11,12,13,14],15),([0,1,2,3,4,5,6,7,8,9,10,11,12,13,14,15],16)] 14 ?_ | refine qD _ ?_ ?_ | (refine nZ ?_; first | refine cc ?_ | refine ca ?_) | (apply d_call []; exact rfl; (solve | (conv => lhs; try simp [bf,bl])); (solve | exact rfl | simp); (solve | (conv => lhs; try simp [bf,bl])); intro τ hτ; refine nZ ?_; first | exact cc ⟨rfl, rfl⟩ | exact ca ⟨rfl, rfl⟩))
    exact h _ rfl _ (.row 1 g (by decide) rfl rfl)
   ·simp only [if_neg hf] at h
    rw [dput_set hS h1 h2] at h
    have F9 := And.intro @bf <| @bl
    repeat' (first | refine gf ?_ | refine s_seq fun y9 hy9 => ?_ | refine qT _ ?_ ?_ | refine qG _ ?_ ?_ | refine qN ?_ ?_ | (refine QB.mk fun hb9 => ?_; (try simp only [hb9]); (try simp at hb9); first | (exfalso; omega) | subst hb9 | skip) | refine sD tOK tmix [([],0),([0],1),([0,1],2),([0,1,2],3),([],4),([],5),([5],6),([5,6],7),([5,6,7],8),([],9),([5,6,7,8,9],10),([5,6,7,8,9,10],11),([5,6,7,8,9,10,11],12),([5,6,7,8,9,10,11,12],13),([0,1,2,3,4,5,6,7,8,9,10,11,12,13],14),([0,1,2,3,4,5,6,7,8,9,10,11,12,13,14],15),([0,1,2,3,4,5,6,7,8,9,10,11,12,13,14,15],16)] 14 ?_ | refine qD _ ?_ ?_ | (refine nZ ?_; first | refine cc ?_ | refine ca ?_) | (apply d_call []; exact rfl; (solve | (conv => lhs; try simp [bf,bl])); (solve | exact rfl | simp); (solve | (conv => lhs; try simp [bf,bl])); intro τ hτ; refine nZ ?_; first | exact cc ⟨rfl, rfl⟩ | exact ca ⟨rfl, rfl⟩))
    refine h _ rfl _ (.row 1 g (by decide) ?_ ?_)
    ·simp [burn]
    ·simp [burn, List.map_set, h2]
theorem R_delete {s : ByteArray} (hI : Inv d) (hS : srt d.files) (h : ∀ d', (delete d s).2 = d' → ∀ σ', RdAt σ' 0 d' → R (.ret (i64 (delete d s).1)) σ') : C tE 33 [.ptr 0 0 0 [], .str s] (rdB g d) R := by
 have hn := hI.n
 have f0 := hI.fuse0
 have f1 := hI.fuse1
 have ca : ∀ {R : Re → Store → Prop}, R (.ret (i64 (posI s.data.toList d.files))) (rdB g (burn d)) → C tE 51 [.ptr 0 0 0 [], .str s] (rdB g (burn d)) R := fun h => R_at (d := burn d) (by show d.files.length < 1000000; omega) h
 have bf : (burn d).files = d.files := rfl
 unfold delete at h
 by_cases h0 : d.fuse = 0
 ·have cc : ∀ {R : Re → Store → Prop}, R (.ret (.bool false)) (rdB g d) → C tE 65 [.ptr 0 0 0 []] (rdB g d) R := fun h => R_call f0 f1 (by rw [if_pos h0]; simpa [h0] using h)
  rw [if_pos (by simpa using h0)] at h
  refine s_body' Tryz.func33 tOK rfl (by conv => lhs; simp) (by conv => lhs; simp) (by conv => lhs; simp [Fr.args]) rfl (by conv => lhs; try simp) fun R9 hR9 => ?_
  repeat' (first | refine go ?_ | refine s_seq fun y9 hy9 => ?_ | refine qT _ ?_ ?_ | refine qG _ ?_ ?_ | refine qN ?_ ?_ | (refine QB.mk fun hb9 => ?_; (try simp only [hb9]); (try simp at hb9); first | (exfalso; omega) | subst hb9 | skip) | (refine nZ ?_; refine cc ?_))
  exact h _ rfl _ (.row 1 g (by decide) rfl rfl)
 ·have hb0 : (d.fuse == 0) = false := by rw [beq_eq_false_iff_ne]; exact h0
  have cc : ∀ {R : Re → Store → Prop}, R (.ret (.bool true)) (rdB g (burn d)) → C tE 65 [.ptr 0 0 0 []] (rdB g d) R := fun h => R_call f0 f1 (by rw [if_neg h0, hb0]; exact h)
  rw [if_neg (by rw [hb0]; simp)] at h
  refine s_body' Tryz.func33 tOK rfl (by conv => lhs; simp) (by conv => lhs; simp) (by conv => lhs; simp [Fr.args]) rfl (by conv => lhs; try simp) fun R9 hR9 => ?_
  cases hp : pos s.data.toList d.files with
  | none =>
   rw [pos_none hp] at h
   rw [posI_none hp] at ca
   repeat' (first | refine go ?_ | refine s_seq fun y9 hy9 => ?_ | refine qT _ ?_ ?_ | refine qG _ ?_ ?_ | refine qN ?_ ?_ | (refine QB.mk fun hb9 => ?_; (try simp only [hb9]); (try simp at hb9); first | (exfalso; omega) | subst hb9 | skip) | (refine nZ ?_; first | refine cc ?_ | refine ca ?_))
   exact h _ rfl _ (.row 1 g (by decide) rfl rfl)
  | some i =>
   obtain ⟨h1, h2, h3⟩ := pos_some hp
   rw [h3] at h
   rw [posI_some hp] at ca
   have q1 : i ≤ d.files.length := by omega
   have q2 : (i : Int) + 1 ≤ d.files.length := by omega
   have q3 : i + 1 ≤ d.files.length := by omega
   have q4 : ((i : Int) + 1).toNat = i + 1 := by omega
   have q5 : min i d.files.length = i := by omega
   have q6 : ((d.files.length : Int) - ((i : Int) + 1)).toNat = d.files.length - (i + 1) := by omega
   have q7 : i + 1 + (d.files.length - (i + 1)) = d.files.length := by omega
   have q8 : ((d.files.map eF).drop (i + 1)).take (d.files.length - (i + 1)) = (d.files.map eF).drop (i + 1) := List.take_of_length_le (by simp)
   have q9 : ((d.files.map eF).take i).take i = (d.files.map eF).take i := List.take_of_length_le (by simp; omega)
   have F9 := And.intro @bf <| And.intro @q1 <| And.intro @q2 <| And.intro @q3 <| And.intro @q4 <| And.intro @q5 <| And.intro @q6 <| And.intro @q7 <| And.intro @q8 <| @q9
   repeat' (first | refine gf ?_ | refine s_seq fun y9 hy9 => ?_ | refine qT _ ?_ ?_ | refine qG _ ?_ ?_ | refine qN ?_ ?_ | (refine QB.mk fun hb9 => ?_; (try simp only [hb9]); (try simp at hb9); first | (exfalso; omega) | subst hb9 | skip) | refine sD tOK tmix [([],0),([],3),([],4),([1,2],5),([0,1,2,3],1),([],6),([],7),([6],8),([5,6,7],9),([0,1,2,3,4,5,6,7,8],2),([0,1,2,3,4,5,6,7,8,9],10)] 9 ?_ | refine qD _ ?_ ?_ | refine cE Tryz.func67 tOK fun R9 hR9 => ?_ | (refine nZ ?_; first | refine cc ?_ | refine ca ?_) | (apply d_call []; exact rfl; (solve | (conv => lhs; try simp [bf,q1,q2,q3,q4,q5,q6,q7,q8,q9])); (solve | exact rfl | simp); (solve | (conv => lhs; try simp [bf,q1,q2,q3,q4,q5,q6,q7,q8,q9])); intro τ hτ; refine nZ ?_; first | exact cc ⟨rfl, rfl⟩ | exact ca ⟨rfl, rfl⟩))
   have hd := ddel_at hS h1 h2
   refine h _ rfl _ (.row 2 2 (by decide) ?_ ?_)
   ·simp [burn, hd]; omega
   ·simp [burn, hd]
end
end Go.Proofs.YtdplbgfokoajjaaGreat
end
section
set_option linter.unusedVariables false
set_option linter.unusedSimpArgs false
set_option maxRecDepth 20000
namespace Go.Proofs.YtdplbgfokoajjaaGreat
open Go
attribute [-simp] List.map_set
theorem renL_u8l (r : Nat → Nat) : ∀ l : List UInt8, renL r (u8l l) = u8l l
 | [] => rfl
 | b :: l => by
  have := renL_u8l r l
  unfold u8l at this ⊢
  simp only [List.map_cons, renL, ren, this]
theorem renL_eF (r : Nat → Nat) : ∀ l : List (List UInt8 × Fl), renL r (l.map eF) = l.map eF
 | [] => rfl
 | p :: l => by
  simp only [List.map_cons, renL, renL_eF r l, ren, renL_u8l]
theorem allL_u8l (q : Nat → Bool) : ∀ l : List UInt8, allL q (u8l l) = true
 | [] => rfl
 | b :: l => by
  have := allL_u8l q l
  unfold u8l at this ⊢
  simp only [List.map_cons, allL, allB, this, Bool.and_self]
theorem allL_eF (q : Nat → Bool) : ∀ l : List (List UInt8 × Fl), allL q (l.map eF) = true
 | [] => rfl
 | p :: l => by
  simp only [List.map_cons, allL, allL_eF q l, allB, allL_u8l, Bool.and_self]
theorem rdB_all (g : Nat) (d : Dk) : allStore (fun b => decide (b < 2)) (rdB g d) = true := by
 simp [allStore, allBlk, allL, allB, allL_eF]
section
variable {R : Re → Store → Prop} {σ : Store} {d : Dk} {i l g f : Nat} {args : List PV} {v : PV}
theorem R_at0 (ne : i ≠ l) (st : σ[i]? = some (some (rSt d (.ref l g 0 d.files.length)))) (ls : σ[l]? = some (some (.cells 74 g (d.files.map eF)))) (hargs : allL (fun b => decide (b < 2)) args = true)
  (hspec : ∀ R : Re → Store → Prop, R (.ret v) (rdB g d) → C tE f args (rdB g d) R) (hv : ∀ τ, frz τ 6 v = some v) (h : R (.ret v) σ) : C tE f (renL (nth [i, l]) args) σ R := by
 refine C_own (σ0 := rdB g d) tOK [i, l] (by simp [ne]) rfl hargs (rdB_all g d) (fun k hk => ?_) ?_
 ·have hk : k = 0 ∨ k = 1 := by simp at hk; omega
  rcases hk with rfl | rfl
  ·simp [nth, renStore, renBlk, renL, ren, st]
  ·simp [nth, renStore, renBlk, renL_eF, ls]
 ·refine hspec _ ?_
  unfold ownRe
  refine ⟨by rw [show (rdB g d).take [i, l].length = rdB g d from rfl]; exact rdB_all g d, ?_⟩
  simp only [hv]
  have : putAll σ [i, l] (renStore (nth [i, l]) ((rdB g d).take [i, l].length)) = σ := by
   rw [show (rdB g d).take [i, l].length = rdB g d from rfl]
   simp only [renStore, List.map_cons, List.map_nil, Option.map_some, putAll, renBlk, renL_eF, renL, ren]
   rw [show nth [i, l] 1 = l from rfl]
   rw [set_self_of st, set_self_of ls]
  rw [this]; exact h
theorem R_used_at (ne : i ≠ l) (st : σ[i]? = some (some (rSt d (.ref l g 0 d.files.length)))) (ls : σ[l]? = some (some (.cells 74 g (d.files.map eF)))) (hl : d.files.length < 1000000) (hu : used d.files < 1000000000) (h : R (.ret (i64 (used d.files))) σ) : C tE 19 [.ptr i 0 0 []] σ R :=
 R_at0 (args := [.ptr 0 0 0 []]) ne st ls rfl (fun R h => R_used hl hu h) (fun τ => rfl) h
theorem at_get {σ : Store} {b : Nat} {x : Blk} (h : Store.at σ b = some x) : σ[b]? = some (some x) := by
 unfold Store.at at h
 split at h
 ·rename_i e; rw [e]; cases h; rfl
 ·cases h
theorem R_used_a (ne : i ≠ l) (st : Store.at σ i = some (rSt d (.ref l g 0 d.files.length))) (ls : Store.at σ l = some (.cells 74 g (d.files.map eF))) (hl : d.files.length < 1000000) (hu : used d.files < 1000000000) (h : R (.ret (i64 (used d.files))) σ) : C tE 19 [.ptr i 0 0 []] σ R :=
 R_used_at ne (at_get st) (at_get ls) hl hu h
theorem R_at_a {s : ByteArray} (ne : i ≠ l) (st : Store.at σ i = some (rSt d (.ref l g 0 d.files.length))) (ls : Store.at σ l = some (.cells 74 g (d.files.map eF))) (hl : d.files.length < 1000000) (h : R (.ret (i64 (posI s.data.toList d.files))) σ) : C tE 51 [.ptr i 0 0 [], .str s] σ R :=
 R_at0 (args := [.ptr 0 0 0 [], .str s]) ne (at_get st) (at_get ls) rfl (fun R h => R_at hl h) (fun τ => rfl) h
theorem R_at_b {s : ByteArray} (st : Store.at σ i = some (rSt d (.ref l g 0 d.files.length))) (ls : Store.at σ l = some (.cells 74 g (d.files.map eF))) (ne : (i != l) = true) (hl : d.files.length < 1000000) (h : R (.ret (i64 (posI s.data.toList d.files))) σ) : C tE 51 [.ptr i 0 0 [], .str s] σ R :=
 R_at_a (by simpa using ne) st ls hl h
end
theorem KeepS.of_at {p : Nat → Bool} {σ : Store} : ∀ (i : Nat) (s t : Store), s.length = t.length → (∀ (j : Nat) (x y : Option Blk), s[j]? = some x → t[j]? = some y → KOne p σ (i + j) x y) → KeepS p σ i s t
 | _, [], [], _, _ => trivial
 | _, [], _ :: _, h, _ => by simp at h
 | _, _ :: _, [], h, _ => by simp at h
 | i, x :: s, y :: t, h, hk => ⟨hk 0 x y rfl rfl, KeepS.of_at (i + 1) s t (by simpa using h) fun j a b ha hb => by
   have := hk (j + 1) a b (by simpa using ha) (by simpa using hb)
   rw [show i + 1 + j = i + (j + 1) by omega]; exact this⟩
theorem keep_row {σ : Store} {r m ty g : Nat} {xs ys : List PV} (hrm : r ≠ m) (hr : σ[r]? = some (some (.cells ty g xs))) (hy : xs.mapM (frzP (fun b => b != m) σ 6) = some ys) : KeepS (fun b => b != m) σ 0 σ ((σ.set r (some (.cells ty g ys))).set m none) := by
 refine KeepS.of_at 0 _ _ (by simp) fun j x y hx hyy => ?_
 rw [Nat.zero_add]
 have hj := getElem?_lt hx
 by_cases h1 : j = m
 ·subst h1
  rw [List.getElem?_set_self (by simpa using hj)] at hyy
  cases hyy
  cases x <;> simp [KOne]
 ·rw [List.getElem?_set_ne (Ne.symm h1)] at hyy
  by_cases h2 : j = r
  ·subst h2
   rw [List.getElem?_set_self hj] at hyy
   rw [hr] at hx
   cases hx; cases hyy
   have : (j != m) = true := by simpa using h1
   simp only [KOne, this, if_true]
   exact ⟨_, rfl, .cells hy⟩
  ·rw [List.getElem?_set_ne (Ne.symm h2), hx] at hyy
   cases hyy
   have : (j != m) = true := by simpa using h1
   cases x with
   | none => rfl
   | some b => simp only [KOne, this, if_true]; exact ⟨_, rfl, .same⟩
theorem fp_eF (p : Nat → Bool) (σ : Store) (a : List UInt8 × Fl) : frzP p σ 6 (eF a) = some (eF a) := by
 simp [frzP]
theorem fp_map (p : Nat → Bool) (σ : Store) (l : List (List UInt8 × Fl)) : (l.map eF).mapM (frzP p σ 6) = some (l.map eF) := mapM_same fun x hx => by
 obtain ⟨a, _, rfl⟩ := List.mem_map.1 hx; exact fp_eF p σ a
theorem mapM_set {α β : Type} {f : α → Option β} : ∀ {l : List α} {r : List β} {i : Nat} {a : α} {b : β}, l.mapM f = some r → f a = some b → (l.set i a).mapM f = some (r.set i b)
 | [], r, i, a, b, h, _ => by simp at h; subst h; rfl
 | x :: l, r, i, a, b, h, hab => by
  simp only [List.mapM_cons] at h
  obtain ⟨y, hy, h⟩ := Option.bind_eq_some_iff.1 h
  obtain ⟨ys, hys, h⟩ := Option.bind_eq_some_iff.1 h
  cases h
  cases i with
  | zero => simp [List.mapM_cons, hab, hys]
  | succ i => simp [List.mapM_cons, hy, mapM_set hys hab]
theorem fp_file {m : Nat} {σ : Store} {n : List UInt8} {bs : List UInt8} {g len : Nat} {k : Int} (hb : Store.at σ m = some (.cells 5 g (u8l bs))) (hl : len = bs.length) : frzP (fun b => b != m) σ 6 (.agg 74 [.str (tx n), .ref m g 0 len, i64 k]) = some (eF (n, ⟨bs, k⟩)) := by
 have := frzP_row' (k := fun b => b != m) (n := 4) (b := m) (xs := u8l bs) (len := len) (by simp) hb (by simp [hl]) (fun x hx => by
  obtain ⟨b, _, rfl⟩ := List.mem_map.1 hx; rfl) (pl_u8l _)
 simp only [frzP, List.mapM_cons, List.mapM_nil] at this ⊢
 simp only [this]
 rfl
theorem tx_self (s : ByteArray) : tx s.data.toList = s := by cases s; simp [tx]
theorem fp_file' {m : Nat} {σ : Store} {s : ByteArray} {bs : List UInt8} {g len : Nat} {k : Int} (hb : Store.at σ m = some (.cells 5 g (u8l bs))) (hl : len = bs.length) : frzP (fun b => b != m) σ 6 (.agg 74 [.str s, .ref m g 0 len, i64 k]) = some (eF (s.data.toList, ⟨bs, k⟩)) := by
 have := fp_file (n := s.data.toList) (k := k) hb hl
 rw [tx_self] at this; exact this
theorem mapM_app {α β : Type} {f : α → Option β} : ∀ {l l' : List α} {r r' : List β}, l.mapM f = some r → l'.mapM f = some r' → (l ++ l').mapM f = some (r ++ r')
 | [], l', r, r', h, h' => by simp at h; subst h; exact h'
 | x :: l, l', r, r', h, h' => by
  simp only [List.mapM_cons] at h
  obtain ⟨y, hy, h⟩ := Option.bind_eq_some_iff.1 h
  obtain ⟨ys, hys, h⟩ := Option.bind_eq_some_iff.1 h
  cases h
  simp [List.mapM_cons, hy, mapM_app hys h']
theorem mapM_cns {α β : Type} {f : α → Option β} {a : α} {b : β} {l : List α} {r : List β} (h : f a = some b) (h' : l.mapM f = some r) : (a :: l).mapM f = some (b :: r) := by simp [List.mapM_cons, h, h']
theorem mapM_one {α β : Type} {f : α → Option β} {a : α} {b : β} (h : f a = some b) : [a].mapM f = some [b] := by simp [List.mapM_cons, h]
theorem fp_tk (p : Nat → Bool) (σ : Store) (l : List (List UInt8 × Fl)) (k : Nat) : ((l.map eF).take k).mapM (frzP p σ 6) = some ((l.take k).map eF) := by rw [tk_eF]; exact fp_map p σ _
theorem fp_dr (p : Nat → Bool) (σ : Store) (l : List (List UInt8 × Fl)) (k : Nat) : ((l.map eF).drop k).mapM (frzP p σ 6) = some ((l.drop k).map eF) := by rw [dr_eF]; exact fp_map p σ _
end Go.Proofs.YtdplbgfokoajjaaGreat
end
section
set_option linter.unusedVariables false
set_option linter.unusedSimpArgs false
set_option maxRecDepth 20000
namespace Go.Proofs.YtdplbgfokoajjaaGreat
open Go
attribute [local irreducible] T TL C RG DP SP YR afterRG DPcall
attribute [-simp] List.map_set
abbrev eN (p : List UInt8 × Fl) : PV := .str (tx p.1)
@[simp ↓ high] theorem mf_eN (l : List (List UInt8 × Fl)) : (∀ x ∈ l.map eN, fits tE 9 x = true) = True := mem_fits eN (fun a => by simp [fits]) l
@[simp high] theorem pl_eN (l : List (List UInt8 × Fl)) : pureL (l.map eN) = true := pureL_map eN (fun a => by simp [pureB]) l
@[simp] theorem bl_eN (n : Nat) (l : List (List UInt8 × Fl)) : belowL n (l.map eN) = true := belowL_of_pure n _ (pl_eN l)
section
variable {R : Re → Store → Prop} {d : Dk} {n : Int} {g : Nat}
theorem R_at_0 {s : ByteArray} {L : Dk} (h : R (.ret (i64 (-1))) (rdA d)) : C tE 51 [.ptr 0 0 0 [], .str s] (rdA d) R := by
 refine s_body' Tryz.func51 tOK rfl (by conv => lhs; simp) (by conv => lhs; simp) (by conv => lhs; simp [Fr.args]) rfl (by conv => lhs; try simp) fun R9 hR9 => ?_
 repeat' (first | refine go ?_ | refine s_seq fun y9 hy9 => ?_ | refine qT _ ?_ ?_ | refine qG _ ?_ ?_ | refine qN ?_ ?_ | (refine QB.mk fun hb9 => ?_; (try simp only [hb9]); (try simp at hb9); first | (exfalso; omega) | subst hb9 | skip) | refine w_loop fun y9 hy9 => ?_ | (apply w_again; assumption))
 exact h
theorem R_used_0 (h : R (.ret (i64 0)) (rdA d)) : C tE 19 [.ptr 0 0 0 []] (rdA d) R := by
 refine s_body' Tryz.func19 tOK rfl (by conv => lhs; simp) (by conv => lhs; simp) (by conv => lhs; simp [Fr.args]) rfl (by conv => lhs; try simp) fun R9 hR9 => ?_
 repeat' (first | refine go ?_ | refine s_seq fun y9 hy9 => ?_ | refine qT _ ?_ ?_ | refine qG _ ?_ ?_ | refine qN ?_ ?_ | (refine QB.mk fun hb9 => ?_; (try simp only [hb9]); (try simp at hb9); first | (exfalso; omega) | subst hb9 | skip) | refine w_loop fun y9 hy9 => ?_ | (apply w_again; assumption))
 exact h
theorem R_synced_0 {s : ByteArray} (h : R (.ret (i64 0)) (rdA d)) : C tE 21 [.ptr 0 0 0 [], .str s] (rdA d) R := by
 have ca : ∀ {R : Re → Store → Prop}, R (.ret (i64 (-1))) (rdA d) → C tE 51 [.ptr 0 0 0 [], .str s] (rdA d) R := fun h => R_at_0 (L := d) h
 refine s_body' Tryz.func21 tOK rfl (by conv => lhs; simp) (by conv => lhs; simp) (by conv => lhs; simp [Fr.args]) rfl (by conv => lhs; try simp) fun R9 hR9 => ?_
 repeat' (first | refine go ?_ | refine s_seq fun y9 hy9 => ?_ | refine qT _ ?_ ?_ | refine qG _ ?_ ?_ | refine qN ?_ ?_ | (refine QB.mk fun hb9 => ?_; (try simp only [hb9]); (try simp at hb9); first | (exfalso; omega) | subst hb9 | skip) | (refine nZ ?_; refine ca ?_))
 exact h
theorem R_read_0 {s : ByteArray} (h : R (.ret (.tup [.lit [], .bool false])) (rdA d)) : C tE 46 [.ptr 0 0 0 [], .str s] (rdA d) R := by
 have ca : ∀ {R : Re → Store → Prop}, R (.ret (i64 (-1))) (rdA d) → C tE 51 [.ptr 0 0 0 [], .str s] (rdA d) R := fun h => R_at_0 (L := d) h
 refine C_new tOK ?_
 refine s_body' Tryz.func46 tOK rfl (by conv => lhs; simp) (by conv => lhs; simp) (by conv => lhs; simp [Fr.args]) rfl (by conv => lhs; try simp) fun R9 hR9 => ?_
 repeat' (first | refine go ?_ | refine s_seq fun y9 hy9 => ?_ | refine qT _ ?_ ?_ | refine qG _ ?_ ?_ | refine qN ?_ ?_ | (refine QB.mk fun hb9 => ?_; (try simp only [hb9]); (try simp at hb9); first | (exfalso; omega) | subst hb9 | skip) | (refine nZ ?_; refine ca ?_))
 exact n_ret rfl (y := .tup [.lit [], .bool false]) rfl h
theorem R_list_0 (h : R (.ret (.lit [])) (rdA d)) : C tE 17 [.ptr 0 0 0 []] (rdA d) R := by
 refine C_new tOK ?_
 refine s_body' Tryz.func17 tOK rfl (by conv => lhs; simp) (by conv => lhs; simp) (by conv => lhs; simp [Fr.args]) rfl (by conv => lhs; try simp) fun R9 hR9 => ?_
 repeat' (first | refine go ?_ | refine s_seq fun y9 hy9 => ?_ | refine qT _ ?_ ?_ | refine qG _ ?_ ?_ | refine qN ?_ ?_ | (refine QB.mk fun hb9 => ?_; (try simp only [hb9]); (try simp at hb9); first | (exfalso; omega) | subst hb9 | skip) | refine w_loop fun y9 hy9 => ?_ | (apply w_again; assumption))
 exact n_ret rfl (y := .lit []) rfl h
theorem R_sync_0 {s : ByteArray} (hI : Inv d) (h0' : d.files = []) (h : ∀ d', (sync d s).2 = d' → ∀ σ', RdAt σ' 0 d' → R (.ret (i64 (sync d s).1)) σ') : C tE 31 [.ptr 0 0 0 [], .str s] (rdA d) R := by
 have f0 := hI.fuse0
 have f1 := hI.fuse1
 have ca : ∀ {R : Re → Store → Prop}, R (.ret (i64 (-1))) (rdA (burn d)) → C tE 51 [.ptr 0 0 0 [], .str s] (rdA (burn d)) R := fun h => R_at_0 (L := d) h
 unfold sync at h
 rw [show dget s.data.toList d.files = none by rw [h0']; rfl] at h
 by_cases h0 : d.fuse = 0
 ·have cc : ∀ {R : Re → Store → Prop}, R (.ret (.bool false)) (rdA d) → C tE 65 [.ptr 0 0 0 []] (rdA d) R := fun h => R_call f0 f1 (by rw [if_pos h0]; simpa [h0] using h)
  rw [if_pos (by simpa using h0)] at h
  refine s_body' Tryz.func31 tOK rfl (by conv => lhs; simp) (by conv => lhs; simp) (by conv => lhs; simp [Fr.args]) rfl (by conv => lhs; try simp) fun R9 hR9 => ?_
  repeat' (first | refine go ?_ | refine s_seq fun y9 hy9 => ?_ | refine qT _ ?_ ?_ | refine qG _ ?_ ?_ | refine qN ?_ ?_ | (refine QB.mk fun hb9 => ?_; (try simp only [hb9]); (try simp at hb9); first | (exfalso; omega) | subst hb9 | skip) | refine sD tOK tmix [([],0),([0],1),([0,1],2),([0,1,2],3),([],4),([],5),([5],6),([5,6],7),([5,6,7],8),([],9),([5,6,7,8,9],10),([5,6,7,8,9,10],11),([5,6,7,8,9,10,11],12),([5,6,7,8,9,10,11,12],13),([0,1,2,3,4,5,6,7,8,9,10,11,12,13],14),([0,1,2,3,4,5,6,7,8,9,10,11,12,13,14],15),([0,1,2,3,4,5,6,7,8,9,10,11,12,13,14,15],16)] 14 ?_ | refine qD _ ?_ ?_ | (refine nZ ?_; refine cc ?_) | (apply d_call []; exact rfl; (solve | (conv => lhs; try simp)); (solve | exact rfl | simp); (solve | (conv => lhs; try simp)); intro τ hτ; refine nZ ?_; first | exact cc ⟨rfl, rfl⟩))
  exact h _ rfl _ (.nil h0' rfl)
 ·have hb0 : (d.fuse == 0) = false := by rw [beq_eq_false_iff_ne]; exact h0
  have cc : ∀ {R : Re → Store → Prop}, R (.ret (.bool true)) (rdA (burn d)) → C tE 65 [.ptr 0 0 0 []] (rdA d) R := fun h => R_call f0 f1 (by rw [if_neg h0, hb0]; exact h)
  rw [if_neg (by rw [hb0]; simp)] at h
  refine s_body' Tryz.func31 tOK rfl (by conv => lhs; simp) (by conv => lhs; simp) (by conv => lhs; simp [Fr.args]) rfl (by conv => lhs; try simp) fun R9 hR9 => ?_
  repeat' (first | refine go ?_ | refine s_seq fun y9 hy9 => ?_ | refine qT _ ?_ ?_ | refine qG _ ?_ ?_ | refine qN ?_ ?_ | (refine QB.mk fun hb9 => ?_; (try simp only [hb9]); (try simp at hb9); first | (exfalso; omega) | subst hb9 | skip) | refine sD tOK tmix [([],0),([0],1),([0,1],2),([0,1,2],3),([],4),([],5),([5],6),([5,6],7),([5,6,7],8),([],9),([5,6,7,8,9],10),([5,6,7,8,9,10],11),([5,6,7,8,9,10,11],12),([5,6,7,8,9,10,11,12],13),([0,1,2,3,4,5,6,7,8,9,10,11,12,13],14),([0,1,2,3,4,5,6,7,8,9,10,11,12,13,14],15),([0,1,2,3,4,5,6,7,8,9,10,11,12,13,14,15],16)] 14 ?_ | refine qD _ ?_ ?_ | (refine nZ ?_; first | refine cc ?_ | refine ca ?_) | (apply d_call []; exact rfl; (solve | (conv => lhs; try simp)); (solve | exact rfl | simp); (solve | (conv => lhs; try simp)); intro τ hτ; refine nZ ?_; first | exact cc ⟨rfl, rfl⟩ | exact ca ⟨rfl, rfl⟩))
  exact h _ rfl _ (.nil h0' rfl)
theorem R_delete_0 {s : ByteArray} (hI : Inv d) (h0' : d.files = []) (h : ∀ d', (delete d s).2 = d' → ∀ σ', RdAt σ' 0 d' → R (.ret (i64 (delete d s).1)) σ') : C tE 33 [.ptr 0 0 0 [], .str s] (rdA d) R := by
 have f0 := hI.fuse0
 have f1 := hI.fuse1
 have ca : ∀ {R : Re → Store → Prop}, R (.ret (i64 (-1))) (rdA (burn d)) → C tE 51 [.ptr 0 0 0 [], .str s] (rdA (burn d)) R := fun h => R_at_0 (L := d) h
 unfold delete at h
 rw [show dget s.data.toList d.files = none by rw [h0']; rfl] at h
 by_cases h0 : d.fuse = 0
 ·have cc : ∀ {R : Re → Store → Prop}, R (.ret (.bool false)) (rdA d) → C tE 65 [.ptr 0 0 0 []] (rdA d) R := fun h => R_call f0 f1 (by rw [if_pos h0]; simpa [h0] using h)
  rw [if_pos (by simpa using h0)] at h
  refine s_body' Tryz.func33 tOK rfl (by conv => lhs; simp) (by conv => lhs; simp) (by conv => lhs; simp [Fr.args]) rfl (by conv => lhs; try simp) fun R9 hR9 => ?_
  repeat' (first | refine go ?_ | refine s_seq fun y9 hy9 => ?_ | refine qT _ ?_ ?_ | refine qG _ ?_ ?_ | refine qN ?_ ?_ | (refine QB.mk fun hb9 => ?_; (try simp only [hb9]); (try simp at hb9); first | (exfalso; omega) | subst hb9 | skip) | (refine nZ ?_; refine cc ?_))
  exact h _ rfl _ (.nil h0' rfl)
 ·have hb0 : (d.fuse == 0) = false := by rw [beq_eq_false_iff_ne]; exact h0
  have cc : ∀ {R : Re → Store → Prop}, R (.ret (.bool true)) (rdA (burn d)) → C tE 65 [.ptr 0 0 0 []] (rdA d) R := fun h => R_call f0 f1 (by rw [if_neg h0, hb0]; exact h)
  rw [if_neg (by rw [hb0]; simp)] at h
  refine s_body' Tryz.func33 tOK rfl (by conv => lhs; simp) (by conv => lhs; simp) (by conv => lhs; simp [Fr.args]) rfl (by conv => lhs; try simp) fun R9 hR9 => ?_
  repeat' (first | refine go ?_ | refine s_seq fun y9 hy9 => ?_ | refine qT _ ?_ ?_ | refine qG _ ?_ ?_ | refine qN ?_ ?_ | (refine QB.mk fun hb9 => ?_; (try simp only [hb9]); (try simp at hb9); first | (exfalso; omega) | subst hb9 | skip) | (refine nZ ?_; first | refine cc ?_ | refine ca ?_))
  exact h _ rfl _ (.nil h0' rfl)
theorem R_list (hl : d.files.length < 1000000) (h : R (.ret (.lit (d.files.map eN))) (rdB g d)) : C tE 17 [.ptr 0 0 0 []] (rdB g d) R := by
 have tk : ∀ j, j < d.files.length → d.files.take (j + 1) = d.files.take j ++ [gt d.files j] := fun j hj => by rw [List.take_add_one, gq hj]; rfl
 have tl : ∀ j, j ≤ d.files.length → (d.files.take j).length = j := fun j hj => by simp; omega
 have tz : d.files.take d.files.length = d.files := List.take_length
 have t0 : d.files.take 0 = [] := rfl
 generalize hT : (fun j => d.files.take j) = T at *
 have hT' : ∀ j, d.files.take j = T j := fun j => by rw [← hT]
 simp only [hT'] at tk tl tz t0
 refine C_new tOK ?_
 refine s_body' Tryz.func17 tOK rfl (by conv => lhs; simp) (by conv => lhs; simp) (by conv => lhs; simp [Fr.args]) rfl (by conv => lhs; try simp) fun R9 hR9 => ?_
 repeat' (first | refine go ?_ | refine s_seq fun y9 hy9 => ?_ | refine qT _ ?_ ?_ | refine qG _ ?_ ?_ | refine qN ?_ ?_ | (refine QB.mk fun hb9 => ?_; (try simp only [hb9]); (try simp at hb9); first | (exfalso; omega) | subst hb9 | skip))
 refine s_loop fun c9 hc9 => ?_
 refine w_trim 2 [0, 3, 4] (by conv => lhs; simp) (by conv => lhs; simp) (by first | rfl | simp) (by first | rfl | simp) ?_
 refine s_loopn d.files.length (fun j fr σ => (j = 0 ∧ fr = [(0, .ptr 0 0 0 []), (3, .nils), (4, i64 (0 : Nat))] ∧ σ = rdB g d) ∨ (0 < j ∧ fr = [(0, .ptr 0 0 0 []), (3, .ref 3 (j - 1) 0 j), (4, i64 j)] ∧ σ = [some (rSt d (.ref 1 g 0 d.files.length)), some (.cells 74 g (d.files.map eF)), some (.cells 9 0 [eN (gt d.files 0)]), some (.cells 9 (j - 1) ((T j).map eN))])) ?_ (.inl ⟨rfl, by simp, by first | rfl | simp⟩)
 rintro j fr σ hj hS ih
 have htk := tk j
 have htl := tl j hj
 rcases hS with ⟨rfl, rfl, rfl⟩ | ⟨hj0, rfl, rfl⟩
 ·refine s_round hc9 ?_
  clear hc9
  rcases Nat.eq_zero_or_pos d.files.length with hz | hz
  ·have hnil : d.files = [] := List.eq_nil_of_length_eq_zero hz
   repeat' (first | refine go ?_ | refine s_seq fun y9 hy9 => ?_ | refine qT _ ?_ ?_ | refine qG _ ?_ ?_ | refine qN ?_ ?_ | (refine QB.mk fun hb9 => ?_; (try simp only [hb9]); (try simp at hb9); first | (exfalso; omega) | subst hb9 | skip))
   refine n_ret rfl (y := .lit []) rfl ?_
   rw [hnil] at h; exact h
  ·repeat' (first | refine go ?_ | refine s_seq fun y9 hy9 => ?_ | refine qT _ ?_ ?_ | refine qG _ ?_ ?_ | refine qN ?_ ?_ | (refine QB.mk fun hb9 => ?_; (try simp only [hb9]); (try simp at hb9); first | (exfalso; omega) | subst hb9 | skip))
   refine w_back 4 [0, 3, 4] (by conv => lhs; simp) (by conv => lhs; simp) (by first | rfl | simp) (by first | rfl | simp) ?_
   exact ih hz _ _ (.inr ⟨by omega, by simp, by simp [htk hz, t0]⟩)
 ·have htt : ((T j).map eN).take j = (T j).map eN := List.take_of_length_le (by simp [htl])
  refine s_round hc9 ?_
  clear hc9
  rcases Nat.lt_or_ge j d.files.length with hlt | hge
  ·have F9 := And.intro @htl <| @htt
   repeat' (first | refine gf ?_ | refine s_seq fun y9 hy9 => ?_ | refine qT _ ?_ ?_ | refine qG _ ?_ ?_ | refine qN ?_ ?_ | (refine QB.mk fun hb9 => ?_; (try simp only [hb9]); (try simp at hb9); first | (exfalso; omega) | subst hb9 | skip))
   refine w_back 4 [0, 3, 4] (by conv => lhs; simp) (by conv => lhs; simp) (by first | rfl | simp) (by first | rfl | simp) ?_
   have e1 : j - 1 + 1 = j + 1 - 1 := by omega
   exact ih hlt _ _ (.inr ⟨by omega, by simp [e1], by simp [htk hlt, e1]⟩)
  ·have hjl : j = d.files.length := by omega
   have hTj : T j = d.files := by rw [hjl]; exact tz
   have F9 := And.intro @htl <| @htt
   repeat' (first | refine gf ?_ | refine s_seq fun y9 hy9 => ?_ | refine qT _ ?_ ?_ | refine qG _ ?_ ?_ | refine qN ?_ ?_ | (refine QB.mk fun hb9 => ?_; (try simp only [hb9]); (try simp at hb9); first | (exfalso; omega) | subst hb9 | skip))
   refine n_ret (y := .lit (d.files.map eN)) rfl ?_ h
   simp only [frzT]
   rw [frzN_row' (xs := (T j).map eN) (n := 5) (by simp) rfl (by simp [htl]) (fun x hx => by
    obtain ⟨a, _, rfl⟩ := List.mem_map.1 hx; rfl) (pl_eN _), hTj]
end
theorem less_eq : ∀ a b : List UInt8, Op.bytesLess a b = bytesBefore a b
 | [], [] => rfl
 | [], _ :: _ => rfl
 | _ :: _, [] => rfl
 | a :: r, b :: s => by simp only [Op.bytesLess, bytesBefore, less_eq r s]
theorem dins_at {n : List UInt8} {f : Fl} : ∀ {l : List (List UInt8 × Fl)} {k : Nat}, k ≤ l.length → (∀ i, i < k → bytesBefore (gt l i).1 n = true) → (k < l.length → bytesBefore (gt l k).1 n = false) → (∀ p ∈ l, p.1 ≠ n) → dins (n, f) l = l.take k ++ (n, f) :: l.drop k
 | [], k, hk, _, _, _ => by
  have : k = 0 := by simpa using hk
  subst this; rfl
 | p :: l, k, hk, hb, ha, hne => by
  cases k with
  | zero =>
   have h1 : bytesBefore p.1 n = false := by simpa [gt] using ha (by simp)
   have h2 : bytesBefore n p.1 = true := by
    rcases bb_tri p.1 n with h | h | h
    ·exact absurd h (hne p (by simp))
    ·rw [h1] at h; cases h
    ·exact h
   simp [dins, Lit.before, h2]
  | succ k =>
   have h1 : bytesBefore p.1 n = true := by simpa [gt] using hb 0 (by omega)
   have ih := dins_at (f := f) (l := l) (k := k) (by simpa using hk) (fun i hi => by simpa [gt] using hb (i + 1) (by omega)) (fun h => by simpa [gt] using ha (by simpa using h)) (fun q hq => hne q (by simp [hq]))
   simp [dins, Lit.before, bb_asymm h1, ih]
theorem pos_none_ne {n : List UInt8} {l : List (List UInt8 × Fl)} (h : pos n l = none) : ∀ p ∈ l, p.1 ≠ n := by
 unfold pos at h
 rw [List.findIdx?_eq_none_iff] at h
 intro p hp e
 have := h p hp
 simp [e] at this
theorem keep_all (p : Nat → Bool) (hp : ∀ b, p b = true) (σ : Store) : ∀ (i : Nat) (s : Store), KeepS p σ i s s
 | _, [] => trivial
 | i, x :: s => ⟨by cases x <;> simp [KOne, hp, KBlk.same], keep_all p hp σ (i + 1) s⟩
theorem k_id {R : Re → Store → Prop} {σ : Store} {k : IntKind} {n : Int} (h : R (.ret (.int k n)) σ) : keepRe R (.ret (.int k n)) σ := ⟨fun _ => true, _, σ, rfl, keep_all _ (fun _ => rfl) _ _ _, h⟩
section
variable {R : Re → Store → Prop} {d : Dk} {n : Int} {g : Nat}
set_option maxHeartbeats 4000000 in
theorem R_write {s : ByteArray} {b : List UInt8} (hI : Inv d) (hS : srt d.files) (hb : b.length ≤ 9223372036854775807) (cn : ∀ {R : Re → Store → Prop} {σ : Store}, R (.ret (.bool (named s))) σ → C tE 66 [.str s] σ R)
  (h : ∀ d', (write d s b).2 = d' → ∀ σ', RdAt σ' 0 d' → R (.ret (i64 (write d s b).1)) σ') : C tE 37 [.ptr 0 0 0 [], .str s, .lit (u8l b)] (rdB g d) R := by
 have hn := hI.n
 have f0 := hI.fuse0
 have f1 := hI.fuse1
 have hr0 := hI.room0
 have hr1 := hI.room1
 have hfit := hI.fit
 have ca : ∀ {R : Re → Store → Prop}, R (.ret (i64 (posI s.data.toList d.files))) (rdB g (burn d)) → C tE 51 [.ptr 0 0 0 [], .str s] (rdB g (burn d)) R := fun h => R_at (d := burn d) (by show d.files.length < 1000000; omega) h
 have bf : (burn d).files = d.files := rfl
 have br : (burn d).room = d.room := rfl
 unfold write at h
 refine C_keep tOK ?_
 by_cases h0 : d.fuse = 0
 ·have cc : ∀ {R : Re → Store → Prop}, R (.ret (.bool false)) (rdB g d) → C tE 65 [.ptr 0 0 0 []] (rdB g d) R := fun h => R_call f0 f1 (by rw [if_pos h0]; simpa [h0] using h)
  rw [if_pos (by simpa using h0)] at h
  refine s_body' Tryz.func37 tOK rfl (by conv => lhs; simp) (by conv => lhs; simp) (by conv => lhs; simp [Fr.args]) rfl (by conv => lhs; try simp) fun R9 hR9 => ?_
  repeat' (first | refine go ?_ | refine s_seq fun y9 hy9 => ?_ | refine qT _ ?_ ?_ | refine qG _ ?_ ?_ | refine qN ?_ ?_ | (refine QB.mk fun hb9 => ?_; (try simp only [hb9]); (try simp at hb9); first | (exfalso; omega) | subst hb9 | skip) | refine sD tOK tmix [([],0),([0],1),([0,1],2),([0,1,2],3),([0,1,2,3],4),([0,1,2,3,4],5),([0,1,2,3,4,5],6),([0,1,2,3,4,5,6],7),([0,1,2,3,4,5,6,7],8),([0,1,2,3,4,5,6,7,8],9),([0,1,2,3,4,5,6,7,8,9],10),([0,1,2,3,4,5,6,7,8,9,10],11),([0,1,2,3,4,5,6,7,8,9,10,11],12),([0,1,2,3,4,5,6,7,8,9,10],13),([0,1,2,3,4,5,6,7,8,9,10,13],14),([0,1,2,3,4,5,6,7,8,9,10,13,14],15),([0,1,2,3,4,5,6,7,8,9,10,13,14,15],16),([0,1,2,3,4,5,6,7,8,9,10],17),([0,1,2,3,4,5,6,7,8,9,10,17],18),([0,1,2,3,4,5,6,7,8,9,10,13,14,15,16,17,18],19),([0,1,2,3,4,5,6,7,8,9,10,11,12,13,14,15,16,17,18,19],20),([0,1,2,3,4,5,6,7,8,9,10,11,12,13,14,15,16,17,18,19,20],21)] 20 ?_ | refine sD tOK tmix [([],3),([0],4),([0,1],5),([0,1,2],6),([],7),([],0),([],8),([6],9),([6,7],10),([6,7,8],11),([],12),([6,7,8,9,10],13),([6,7,8,9,10,11],14),([6,7,8,9,10,11,12],15),([5,6,7,8,9,10,11,12,13],1),([],16),([5,6,7,8,9,10,11,12,13,14,15],2),([0,1,2,3,4,5,6,7,8,9,10,11,12,13,14,15,16],17),([0,1,2,3,4,5,6,7,8,9,10,11,12,13,14,15,16,17],18),([0,1,2,3,4,5,6,7,8,9,10,11,12,13,14,15,16,17,18],19)] 17 ?_ | refine qD _ ?_ ?_ | (refine nZ ?_; refine cc ?_) | (apply d_call []; exact rfl; (solve | (conv => lhs; try simp)); (solve | exact rfl | simp); (solve | (conv => lhs; try simp)); intro τ hτ; refine nZ ?_; first | exact cc ⟨rfl, rfl⟩))
  exact k_id (h _ rfl _ (.row 1 g (by decide) rfl rfl))
 ·have hb0 : (d.fuse == 0) = false := by rw [beq_eq_false_iff_ne]; exact h0
  have cc : ∀ {R : Re → Store → Prop}, R (.ret (.bool true)) (rdB g (burn d)) → C tE 65 [.ptr 0 0 0 []] (rdB g d) R := fun h => R_call f0 f1 (by rw [if_neg h0, hb0]; exact h)
  rw [if_neg (by rw [hb0]; simp)] at h
  refine s_body' Tryz.func37 tOK rfl (by conv => lhs; simp) (by conv => lhs; simp) (by conv => lhs; simp [Fr.args]) rfl (by conv => lhs; try simp) fun R9 hR9 => ?_
  cases hnm : named s with
  | false =>
   rw [hnm] at cn
   rw [if_pos hnm] at h
   repeat' (first | refine go ?_ | refine s_seq fun y9 hy9 => ?_ | refine qT _ ?_ ?_ | refine qG _ ?_ ?_ | refine qN ?_ ?_ | (refine QB.mk fun hb9 => ?_; (try simp only [hb9]); (try simp at hb9); first | (exfalso; omega) | subst hb9 | skip) | refine sD tOK tmix [([],0),([0],1),([0,1],2),([0,1,2],3),([0,1,2,3],4),([0,1,2,3,4],5),([0,1,2,3,4,5],6),([0,1,2,3,4,5,6],7),([0,1,2,3,4,5,6,7],8),([0,1,2,3,4,5,6,7,8],9),([0,1,2,3,4,5,6,7,8,9],10),([0,1,2,3,4,5,6,7,8,9,10],11),([0,1,2,3,4,5,6,7,8,9,10,11],12),([0,1,2,3,4,5,6,7,8,9,10],13),([0,1,2,3,4,5,6,7,8,9,10,13],14),([0,1,2,3,4,5,6,7,8,9,10,13,14],15),([0,1,2,3,4,5,6,7,8,9,10,13,14,15],16),([0,1,2,3,4,5,6,7,8,9,10],17),([0,1,2,3,4,5,6,7,8,9,10,17],18),([0,1,2,3,4,5,6,7,8,9,10,13,14,15,16,17,18],19),([0,1,2,3,4,5,6,7,8,9,10,11,12,13,14,15,16,17,18,19],20),([0,1,2,3,4,5,6,7,8,9,10,11,12,13,14,15,16,17,18,19,20],21)] 20 ?_ | refine sD tOK tmix [([],3),([0],4),([0,1],5),([0,1,2],6),([],7),([],0),([],8),([6],9),([6,7],10),([6,7,8],11),([],12),([6,7,8,9,10],13),([6,7,8,9,10,11],14),([6,7,8,9,10,11,12],15),([5,6,7,8,9,10,11,12,13],1),([],16),([5,6,7,8,9,10,11,12,13,14,15],2),([0,1,2,3,4,5,6,7,8,9,10,11,12,13,14,15,16],17),([0,1,2,3,4,5,6,7,8,9,10,11,12,13,14,15,16,17],18),([0,1,2,3,4,5,6,7,8,9,10,11,12,13,14,15,16,17,18],19)] 17 ?_ | refine qD _ ?_ ?_ | (refine nZ ?_; first | refine cc ?_ | refine cn ?_) | (apply d_call []; exact rfl; (solve | (conv => lhs; try simp)); (solve | exact rfl | simp); (solve | (conv => lhs; try simp)); intro τ hτ; refine nZ ?_; first | exact cc ⟨rfl, rfl⟩ | exact cn ⟨rfl, rfl⟩))
   exact k_id (h _ rfl _ (.row 1 g (by decide) rfl rfl))
  | true =>
   rw [hnm] at cn
   rw [if_neg (by rw [hnm]; simp)] at h
   cases hp : pos s.data.toList d.files with
   | none =>
    rw [pos_none hp] at h
    rw [posI_none hp] at ca
    simp only at h
    by_cases h64 : 64 ≤ d.files.length
    ·rw [if_pos h64] at h
     have F9 := And.intro @bf <| @br
     repeat' (first | refine gf ?_ | refine s_seq fun y9 hy9 => ?_ | refine qT _ ?_ ?_ | refine qG _ ?_ ?_ | refine qN ?_ ?_ | (refine QB.mk fun hb9 => ?_; (try simp only [hb9]); (try simp at hb9); first | (exfalso; omega) | subst hb9 | skip) | refine sD tOK tmix [([],0),([0],1),([0,1],2),([0,1,2],3),([0,1,2,3],4),([0,1,2,3,4],5),([0,1,2,3,4,5],6),([0,1,2,3,4,5,6],7),([0,1,2,3,4,5,6,7],8),([0,1,2,3,4,5,6,7,8],9),([0,1,2,3,4,5,6,7,8,9],10),([0,1,2,3,4,5,6,7,8,9,10],11),([0,1,2,3,4,5,6,7,8,9,10,11],12),([0,1,2,3,4,5,6,7,8,9,10],13),([0,1,2,3,4,5,6,7,8,9,10,13],14),([0,1,2,3,4,5,6,7,8,9,10,13,14],15),([0,1,2,3,4,5,6,7,8,9,10,13,14,15],16),([0,1,2,3,4,5,6,7,8,9,10],17),([0,1,2,3,4,5,6,7,8,9,10,17],18),([0,1,2,3,4,5,6,7,8,9,10,13,14,15,16,17,18],19),([0,1,2,3,4,5,6,7,8,9,10,11,12,13,14,15,16,17,18,19],20),([0,1,2,3,4,5,6,7,8,9,10,11,12,13,14,15,16,17,18,19,20],21)] 20 ?_ | refine sD tOK tmix [([],3),([0],4),([0,1],5),([0,1,2],6),([],7),([],0),([],8),([6],9),([6,7],10),([6,7,8],11),([],12),([6,7,8,9,10],13),([6,7,8,9,10,11],14),([6,7,8,9,10,11,12],15),([5,6,7,8,9,10,11,12,13],1),([],16),([5,6,7,8,9,10,11,12,13,14,15],2),([0,1,2,3,4,5,6,7,8,9,10,11,12,13,14,15,16],17),([0,1,2,3,4,5,6,7,8,9,10,11,12,13,14,15,16,17],18),([0,1,2,3,4,5,6,7,8,9,10,11,12,13,14,15,16,17,18],19)] 17 ?_ | refine qD _ ?_ ?_ | (refine nZ ?_; first | refine cc ?_ | refine cn ?_ | refine ca ?_) | (apply d_call []; exact rfl; (solve | (conv => lhs; try simp [bf,br])); (solve | exact rfl | simp); (solve | (conv => lhs; try simp [bf,br])); intro τ hτ; refine nZ ?_; first | exact cc ⟨rfl, rfl⟩ | exact cn ⟨rfl, rfl⟩ | exact ca ⟨rfl, rfl⟩) | (apply d_call [0,1]; exact rfl; (solve | (conv => lhs; try simp [bf,br])); (solve | exact rfl | simp); (solve | (conv => lhs; try simp [bf,br])); intro τ hτ; exact (R_used_a (d:=burn d) (i:=0) (l:=1) (g:=g) (by decide) ((hτ 0 (by simp)).trans rfl) ((hτ 1 (by simp)).trans rfl) (by show d.files.length < 1000000; omega) (by show used d.files < _; omega)) ⟨rfl, rfl⟩))
     exact k_id (h _ rfl _ (.row 1 g (by decide) rfl rfl))
    ·rw [if_neg h64] at h
     by_cases hroom : d.room - used d.files < b.length
     ·rw [if_pos hroom] at h
      have F9 := And.intro @bf <| @br
      repeat' (first | refine gf ?_ | refine s_seq fun y9 hy9 => ?_ | refine qT _ ?_ ?_ | refine qG _ ?_ ?_ | refine qN ?_ ?_ | (refine QB.mk fun hb9 => ?_; (try simp only [hb9]); (try simp at hb9); first | (exfalso; omega) | subst hb9 | skip) | refine sD tOK tmix [([],0),([0],1),([0,1],2),([0,1,2],3),([0,1,2,3],4),([0,1,2,3,4],5),([0,1,2,3,4,5],6),([0,1,2,3,4,5,6],7),([0,1,2,3,4,5,6,7],8),([0,1,2,3,4,5,6,7,8],9),([0,1,2,3,4,5,6,7,8,9],10),([0,1,2,3,4,5,6,7,8,9,10],11),([0,1,2,3,4,5,6,7,8,9,10,11],12),([0,1,2,3,4,5,6,7,8,9,10],13),([0,1,2,3,4,5,6,7,8,9,10,13],14),([0,1,2,3,4,5,6,7,8,9,10,13,14],15),([0,1,2,3,4,5,6,7,8,9,10,13,14,15],16),([0,1,2,3,4,5,6,7,8,9,10],17),([0,1,2,3,4,5,6,7,8,9,10,17],18),([0,1,2,3,4,5,6,7,8,9,10,13,14,15,16,17,18],19),([0,1,2,3,4,5,6,7,8,9,10,11,12,13,14,15,16,17,18,19],20),([0,1,2,3,4,5,6,7,8,9,10,11,12,13,14,15,16,17,18,19,20],21)] 20 ?_ | refine sD tOK tmix [([],3),([0],4),([0,1],5),([0,1,2],6),([],7),([],0),([],8),([6],9),([6,7],10),([6,7,8],11),([],12),([6,7,8,9,10],13),([6,7,8,9,10,11],14),([6,7,8,9,10,11,12],15),([5,6,7,8,9,10,11,12,13],1),([],16),([5,6,7,8,9,10,11,12,13,14,15],2),([0,1,2,3,4,5,6,7,8,9,10,11,12,13,14,15,16],17),([0,1,2,3,4,5,6,7,8,9,10,11,12,13,14,15,16,17],18),([0,1,2,3,4,5,6,7,8,9,10,11,12,13,14,15,16,17,18],19)] 17 ?_ | refine qD _ ?_ ?_ | (refine nZ ?_; first | refine cc ?_ | refine cn ?_ | refine ca ?_) | (apply d_call []; exact rfl; (solve | (conv => lhs; try simp [bf,br])); (solve | exact rfl | simp); (solve | (conv => lhs; try simp [bf,br])); intro τ hτ; refine nZ ?_; first | exact cc ⟨rfl, rfl⟩ | exact cn ⟨rfl, rfl⟩ | exact ca ⟨rfl, rfl⟩) | (apply d_call [0,1]; exact rfl; (solve | (conv => lhs; try simp [bf,br])); (solve | exact rfl | simp); (solve | (conv => lhs; try simp [bf,br])); intro τ hτ; exact (R_used_a (d:=burn d) (i:=0) (l:=1) (g:=g) (by decide) ((hτ 0 (by simp)).trans rfl) ((hτ 1 (by simp)).trans rfl) (by show d.files.length < 1000000; omega) (by show used d.files < _; omega)) ⟨rfl, rfl⟩))
      exact k_id (h _ rfl _ (.row 1 g (by decide) rfl rfl))
     ·rw [if_neg hroom] at h
      replace hb : b.length < 1000000000 := by have := hI.room1; have := hI.room0; omega
      have F9 := And.intro @bf <| @br
      repeat' (first | refine gf ?_ | refine s_seq fun y9 hy9 => ?_ | refine qT _ ?_ ?_ | refine qG _ ?_ ?_ | refine qN ?_ ?_ | (refine QB.mk fun hb9 => ?_; (try simp only [hb9]); (try simp at hb9); first | (exfalso; omega) | subst hb9 | skip) | refine sD tOK tmix [([],0),([0],1),([0,1],2),([0,1,2],3),([0,1,2,3],4),([0,1,2,3,4],5),([0,1,2,3,4,5],6),([0,1,2,3,4,5,6],7),([0,1,2,3,4,5,6,7],8),([0,1,2,3,4,5,6,7,8],9),([0,1,2,3,4,5,6,7,8,9],10),([0,1,2,3,4,5,6,7,8,9,10],11),([0,1,2,3,4,5,6,7,8,9,10,11],12),([0,1,2,3,4,5,6,7,8,9,10],13),([0,1,2,3,4,5,6,7,8,9,10,13],14),([0,1,2,3,4,5,6,7,8,9,10,13,14],15),([0,1,2,3,4,5,6,7,8,9,10,13,14,15],16),([0,1,2,3,4,5,6,7,8,9,10],17),([0,1,2,3,4,5,6,7,8,9,10,17],18),([0,1,2,3,4,5,6,7,8,9,10,13,14,15,16,17,18],19),([0,1,2,3,4,5,6,7,8,9,10,11,12,13,14,15,16,17,18,19],20),([0,1,2,3,4,5,6,7,8,9,10,11,12,13,14,15,16,17,18,19,20],21)] 20 ?_ | refine sD tOK tmix [([],3),([0],4),([0,1],5),([0,1,2],6),([],7),([],0),([],8),([6],9),([6,7],10),([6,7,8],11),([],12),([6,7,8,9,10],13),([6,7,8,9,10,11],14),([6,7,8,9,10,11,12],15),([5,6,7,8,9,10,11,12,13],1),([],16),([5,6,7,8,9,10,11,12,13,14,15],2),([0,1,2,3,4,5,6,7,8,9,10,11,12,13,14,15,16],17),([0,1,2,3,4,5,6,7,8,9,10,11,12,13,14,15,16,17],18),([0,1,2,3,4,5,6,7,8,9,10,11,12,13,14,15,16,17,18],19)] 17 ?_ | refine sD tOK tmix [([],0),([],1),([1],2),([1,2],3),([1,2,3],4),([1,2,3,4],5),([0,1,2,3,4,5],6),([0,1,2,3,4,5,6],7),([0,1,2,3,4,5,6,7],8),([0,1,2,3,4,5,6,7,8],9),([0,1,2,3,4,5,6,7,8,9],10),([0,1,2,3,4,5,6,7,8,9,10],11),([0,1,2,3,4,5,6,7],12),([0,1,2,3,4,5,6,7,8,9,10,11,12],13),([0,1,2,3,4,5,6,7,8,9,10,11,12,13],14),([0,1,2,3,4,5,6,7,8,9,10,11,12,13,14],15),([0,1,2,3,4,5,6,7],16),([0,1,2,3,4,5,6,7,16],17),([0,1,2,3,4,5,6,7,8,9,10,11,12,13,14,15,16,17],18),([0,1,2,3,4,5,6,7,8,9,10,11,12,13,14,15,16,17,18],19)] 18 ?_ | refine qD _ ?_ ?_ | refine cE Tryz.func68 tOK fun R9 hR9 => ?_ | (refine nZ ?_; first | refine cc ?_ | refine cn ?_ | refine ca ?_) | (apply d_call []; exact rfl; (solve | (conv => lhs; try simp [bf,br])); (solve | exact rfl | simp); (solve | (conv => lhs; try simp [bf,br])); intro τ hτ; refine nZ ?_; first | exact cc ⟨rfl, rfl⟩ | exact cn ⟨rfl, rfl⟩ | exact ca ⟨rfl, rfl⟩) | (apply d_call [0,1]; exact rfl; (solve | (conv => lhs; try simp [bf,br])); (solve | exact rfl | simp); (solve | (conv => lhs; try simp [bf,br])); intro τ hτ; exact (R_used_a (d:=burn d) (i:=0) (l:=1) (g:=g) (by decide) ((hτ 0 (by simp)).trans rfl) ((hτ 1 (by simp)).trans rfl) (by show d.files.length < 1000000; omega) (by show used d.files < _; omega)) ⟨rfl, rfl⟩))
      refine s_loop fun c9 hc9 => ?_
      refine w_trim 26 [0, 3, 4] (by conv => lhs; simp) (by conv => lhs; simp) (by first | rfl | simp) (by first | rfl | simp) ?_
      refine s_loopn d.files.length (fun k fr σ => fr = [(0, .ptr 0 0 0 []), (3, .ptr 25 0 0 []), (4, i64 k)] ∧ σ = [some (rSt (burn d) (.ref 1 g 0 d.files.length)), some (.cells 74 g (d.files.map eF)), none, none, none, none, none, none, none, none, none, none, none, none, none, none, none, none, none, none, none, none, none, none,
       some (.cells 5 1 (u8l b)), some (.cells 74 0 [.agg 74 [.str s, .ref 24 1 0 b.length, i64 0]])] ∧ ∀ i : Nat, i < k → bytesBefore (gt d.files i).1 s.data.toList = true) ?_ ⟨by simp, by first | rfl | simp, fun i hi => by omega⟩
      rintro k fr σ hk ⟨rfl, rfl, hB⟩ ih
      refine s_round hc9 ?_
      clear hc9
      have hE : (k < d.files.length ∧ bytesBefore (gt d.files k).1 s.data.toList = true) ∨ (k < d.files.length ∧ bytesBefore (gt d.files k).1 s.data.toList = false) ∨ k = d.files.length := by
       rcases Nat.lt_or_ge k d.files.length with h1 | h1
       ·cases hb : bytesBefore (gt d.files k).1 s.data.toList with
        | true => exact .inl ⟨h1, rfl⟩
        | false => exact .inr (.inl ⟨h1, rfl⟩)
       ·exact .inr (.inr (by omega))
      have hlb := less_eq
      have hbt := bytes_toList
      rcases hE with ⟨hlt, hbk⟩ | hE
      ·have F9 := And.intro @hlb <| And.intro @hbt <| @hbk
       repeat' (first | refine gf ?_ | refine s_seq fun y9 hy9 => ?_ | refine qT _ ?_ ?_ | refine qG _ ?_ ?_ | refine qN ?_ ?_ | (refine QB.mk fun hb9 => ?_; (try simp only [hb9]); (try simp at hb9); first | (exfalso; omega) | subst hb9 | skip) | refine sD tOK tmix [([],0),([0],1),([0,1],2),([0,1,2],3),([0,1,2,3],4),([0,1,2,3,4],5),([0,1,2,3,4,5],6),([0,1,2,3,4,5,6],7),([0,1,2,3,4,5,6,7],8),([0,1,2,3,4,5,6,7,8],9),([0,1,2,3,4,5,6,7,8,9],10),([0,1,2,3,4,5,6,7,8,9,10],11),([0,1,2,3,4,5,6,7,8,9,10,11],12),([0,1,2,3,4,5,6,7,8,9,10],13),([0,1,2,3,4,5,6,7,8,9,10,13],14),([0,1,2,3,4,5,6,7,8,9,10,13,14],15),([0,1,2,3,4,5,6,7,8,9,10,13,14,15],16),([0,1,2,3,4,5,6,7,8,9,10],17),([0,1,2,3,4,5,6,7,8,9,10,17],18),([0,1,2,3,4,5,6,7,8,9,10,13,14,15,16,17,18],19),([0,1,2,3,4,5,6,7,8,9,10,11,12,13,14,15,16,17,18,19],20),([0,1,2,3,4,5,6,7,8,9,10,11,12,13,14,15,16,17,18,19,20],21)] 20 ?_ | refine sD tOK tmix [([],3),([0],4),([0,1],5),([0,1,2],6),([],7),([],0),([],8),([6],9),([6,7],10),([6,7,8],11),([],12),([6,7,8,9,10],13),([6,7,8,9,10,11],14),([6,7,8,9,10,11,12],15),([5,6,7,8,9,10,11,12,13],1),([],16),([5,6,7,8,9,10,11,12,13,14,15],2),([0,1,2,3,4,5,6,7,8,9,10,11,12,13,14,15,16],17),([0,1,2,3,4,5,6,7,8,9,10,11,12,13,14,15,16,17],18),([0,1,2,3,4,5,6,7,8,9,10,11,12,13,14,15,16,17,18],19)] 17 ?_ | refine sD tOK tmix [([],0),([],1),([1],2),([1,2],3),([1,2,3],4),([1,2,3,4],5),([0,1,2,3,4,5],6),([0,1,2,3,4,5,6],7),([0,1,2,3,4,5,6,7],8),([0,1,2,3,4,5,6,7,8],9),([0,1,2,3,4,5,6,7,8,9],10),([0,1,2,3,4,5,6,7,8,9,10],11),([0,1,2,3,4,5,6,7],12),([0,1,2,3,4,5,6,7,8,9,10,11,12],13),([0,1,2,3,4,5,6,7,8,9,10,11,12,13],14),([0,1,2,3,4,5,6,7,8,9,10,11,12,13,14],15),([0,1,2,3,4,5,6,7],16),([0,1,2,3,4,5,6,7,16],17),([0,1,2,3,4,5,6,7,8,9,10,11,12,13,14,15,16,17],18),([0,1,2,3,4,5,6,7,8,9,10,11,12,13,14,15,16,17,18],19)] 18 ?_ | refine sD tOK tmix [([],5),([],0),([],6),([2],7),([2,3],8),([2,3,4],9),([],10),([2,3,4,5,6],11),([1,2,3,4,5,6,7],1),([],12),([9],2),([1,2,3,4,5,6,7,8,9,10],3),([],13),([12],14),([12,13],15),([12,13,14],16),([],17),([12,13,14,15,16],18),([1,2,3,4,5,6,7,8,9,10,11,12,13,14,15,16,17],4),([0,1,2,3,4,5,6,7,8,9,10,11,12,13,14,15,16,17,18],19),([0,1,2,3,4,5,6,7,8,9,10,11,12,13,14,15,16,17,18,19],20),([0,1,2,3,4,5,6,7,8,9,10,11,12,13,14,15,16,17,18,19,20],21)] 19 ?_ | refine qD _ ?_ ?_ | refine cE Tryz.func68 tOK fun R9 hR9 => ?_)
       refine w_back 26 [0, 3, 4] (by conv => lhs; simp) (by conv => lhs; simp) (by first | rfl | simp) (by first | rfl | simp) ?_
       refine ih hlt _ _ ⟨by simp, rfl, fun i hi => ?_⟩
       rcases Nat.lt_or_ge i k with h1 | h1
       ·exact hB i h1
       ·rw [show i = k by omega]; exact hbk
      ·have q6 : ((d.files.length : Int) - (k : Int)).toNat = d.files.length - k := by omega
       have q7 : k + (d.files.length - k) = d.files.length := by omega
       have q8 : ((d.files.map eF).drop k).take (d.files.length - k) = (d.files.map eF).drop k := List.take_of_length_le (by simp)
       have q9 : ((d.files.map eF).take k).take k = (d.files.map eF).take k := List.take_of_length_le (by simp; omega)
       have q5 : min k d.files.length = k := by omega
       have q10 : ∀ x : PV, ((d.files.map eF).take k ++ [x]).take (k + 1) = (d.files.map eF).take k ++ [x] := fun x => List.take_of_length_le (by simp; omega)
       have q1 : k ≤ d.files.length := hk
       have q2 : (k : Int) ≤ d.files.length := by omega
       have hins := dins_at (n := s.data.toList) (f := ⟨b, 0⟩) hk hB (fun h => by rcases hE with h1 | h1; exact h1.2; omega) (pos_none_ne hp)
       have hdp : dput s.data.toList ⟨b, 0⟩ d.files = d.files.take k ++ (s.data.toList, ⟨b, 0⟩) :: d.files.drop k := by
        unfold dput; rw [ddel_off (pos_none_ne hp)]; exact hins
       rw [hdp] at h
       rcases hE with ⟨hlt, hbk⟩ | hE
       ·have F9 := And.intro @hlb <| And.intro @hbt <| And.intro @hbk <| And.intro @q1 <| And.intro @q2 <| And.intro @q5 <| And.intro @q6 <| And.intro @q7 <| And.intro @q8 <| And.intro @q9 <| @q10
        repeat' (first | refine gf ?_ | refine s_seq fun y9 hy9 => ?_ | refine qT _ ?_ ?_ | refine qG _ ?_ ?_ | refine qN ?_ ?_ | (refine QB.mk fun hb9 => ?_; (try simp only [hb9]); (try simp at hb9); first | (exfalso; omega) | subst hb9 | skip) | refine sD tOK tmix [([],0),([0],1),([0,1],2),([0,1,2],3),([0,1,2,3],4),([0,1,2,3,4],5),([0,1,2,3,4,5],6),([0,1,2,3,4,5,6],7),([0,1,2,3,4,5,6,7],8),([0,1,2,3,4,5,6,7,8],9),([0,1,2,3,4,5,6,7,8,9],10),([0,1,2,3,4,5,6,7,8,9,10],11),([0,1,2,3,4,5,6,7,8,9,10,11],12),([0,1,2,3,4,5,6,7,8,9,10],13),([0,1,2,3,4,5,6,7,8,9,10,13],14),([0,1,2,3,4,5,6,7,8,9,10,13,14],15),([0,1,2,3,4,5,6,7,8,9,10,13,14,15],16),([0,1,2,3,4,5,6,7,8,9,10],17),([0,1,2,3,4,5,6,7,8,9,10,17],18),([0,1,2,3,4,5,6,7,8,9,10,13,14,15,16,17,18],19),([0,1,2,3,4,5,6,7,8,9,10,11,12,13,14,15,16,17,18,19],20),([0,1,2,3,4,5,6,7,8,9,10,11,12,13,14,15,16,17,18,19,20],21)] 20 ?_ | refine sD tOK tmix [([],3),([0],4),([0,1],5),([0,1,2],6),([],7),([],0),([],8),([6],9),([6,7],10),([6,7,8],11),([],12),([6,7,8,9,10],13),([6,7,8,9,10,11],14),([6,7,8,9,10,11,12],15),([5,6,7,8,9,10,11,12,13],1),([],16),([5,6,7,8,9,10,11,12,13,14,15],2),([0,1,2,3,4,5,6,7,8,9,10,11,12,13,14,15,16],17),([0,1,2,3,4,5,6,7,8,9,10,11,12,13,14,15,16,17],18),([0,1,2,3,4,5,6,7,8,9,10,11,12,13,14,15,16,17,18],19)] 17 ?_ | refine sD tOK tmix [([],0),([],1),([1],2),([1,2],3),([1,2,3],4),([1,2,3,4],5),([0,1,2,3,4,5],6),([0,1,2,3,4,5,6],7),([0,1,2,3,4,5,6,7],8),([0,1,2,3,4,5,6,7,8],9),([0,1,2,3,4,5,6,7,8,9],10),([0,1,2,3,4,5,6,7,8,9,10],11),([0,1,2,3,4,5,6,7],12),([0,1,2,3,4,5,6,7,8,9,10,11,12],13),([0,1,2,3,4,5,6,7,8,9,10,11,12,13],14),([0,1,2,3,4,5,6,7,8,9,10,11,12,13,14],15),([0,1,2,3,4,5,6,7],16),([0,1,2,3,4,5,6,7,16],17),([0,1,2,3,4,5,6,7,8,9,10,11,12,13,14,15,16,17],18),([0,1,2,3,4,5,6,7,8,9,10,11,12,13,14,15,16,17,18],19)] 18 ?_ | refine sD tOK tmix [([],5),([],0),([],6),([2],7),([2,3],8),([2,3,4],9),([],10),([2,3,4,5,6],11),([1,2,3,4,5,6,7],1),([],12),([9],2),([1,2,3,4,5,6,7,8,9,10],3),([],13),([12],14),([12,13],15),([12,13,14],16),([],17),([12,13,14,15,16],18),([1,2,3,4,5,6,7,8,9,10,11,12,13,14,15,16,17],4),([0,1,2,3,4,5,6,7,8,9,10,11,12,13,14,15,16,17,18],19),([0,1,2,3,4,5,6,7,8,9,10,11,12,13,14,15,16,17,18,19],20),([0,1,2,3,4,5,6,7,8,9,10,11,12,13,14,15,16,17,18,19,20],21)] 19 ?_ | refine qD _ ?_ ?_ | refine cE Tryz.func68 tOK fun R9 hR9 => ?_)
        refine ⟨fun b => b != 24, .int .i64 0, _, rfl, keep_row (r := 46) (m := 24) (ys := (d.files.take k).map eF ++ eF (s.data.toList, ⟨b, 0⟩) :: (d.files.drop k).map eF) (by decide) rfl (mapM_app (fp_tk _ _ _ _) (mapM_cns (fp_file' (bs := b) rfl rfl) (fp_dr _ _ _ _))), ?_⟩
        refine h _ rfl _ (.row 46 3 (by decide) ?_ ?_)
        ·simp [burn]; omega
        ·simp [burn]
       ·have F9 := And.intro @hlb <| And.intro @hbt <| And.intro @q1 <| And.intro @q2 <| And.intro @q5 <| And.intro @q6 <| And.intro @q7 <| And.intro @q8 <| And.intro @q9 <| @q10
        repeat' (first | refine gf ?_ | refine s_seq fun y9 hy9 => ?_ | refine qT _ ?_ ?_ | refine qG _ ?_ ?_ | refine qN ?_ ?_ | (refine QB.mk fun hb9 => ?_; (try simp only [hb9]); (try simp at hb9); first | (exfalso; omega) | subst hb9 | skip) | refine sD tOK tmix [([],0),([0],1),([0,1],2),([0,1,2],3),([0,1,2,3],4),([0,1,2,3,4],5),([0,1,2,3,4,5],6),([0,1,2,3,4,5,6],7),([0,1,2,3,4,5,6,7],8),([0,1,2,3,4,5,6,7,8],9),([0,1,2,3,4,5,6,7,8,9],10),([0,1,2,3,4,5,6,7,8,9,10],11),([0,1,2,3,4,5,6,7,8,9,10,11],12),([0,1,2,3,4,5,6,7,8,9,10],13),([0,1,2,3,4,5,6,7,8,9,10,13],14),([0,1,2,3,4,5,6,7,8,9,10,13,14],15),([0,1,2,3,4,5,6,7,8,9,10,13,14,15],16),([0,1,2,3,4,5,6,7,8,9,10],17),([0,1,2,3,4,5,6,7,8,9,10,17],18),([0,1,2,3,4,5,6,7,8,9,10,13,14,15,16,17,18],19),([0,1,2,3,4,5,6,7,8,9,10,11,12,13,14,15,16,17,18,19],20),([0,1,2,3,4,5,6,7,8,9,10,11,12,13,14,15,16,17,18,19,20],21)] 20 ?_ | refine sD tOK tmix [([],3),([0],4),([0,1],5),([0,1,2],6),([],7),([],0),([],8),([6],9),([6,7],10),([6,7,8],11),([],12),([6,7,8,9,10],13),([6,7,8,9,10,11],14),([6,7,8,9,10,11,12],15),([5,6,7,8,9,10,11,12,13],1),([],16),([5,6,7,8,9,10,11,12,13,14,15],2),([0,1,2,3,4,5,6,7,8,9,10,11,12,13,14,15,16],17),([0,1,2,3,4,5,6,7,8,9,10,11,12,13,14,15,16,17],18),([0,1,2,3,4,5,6,7,8,9,10,11,12,13,14,15,16,17,18],19)] 17 ?_ | refine sD tOK tmix [([],0),([],1),([1],2),([1,2],3),([1,2,3],4),([1,2,3,4],5),([0,1,2,3,4,5],6),([0,1,2,3,4,5,6],7),([0,1,2,3,4,5,6,7],8),([0,1,2,3,4,5,6,7,8],9),([0,1,2,3,4,5,6,7,8,9],10),([0,1,2,3,4,5,6,7,8,9,10],11),([0,1,2,3,4,5,6,7],12),([0,1,2,3,4,5,6,7,8,9,10,11,12],13),([0,1,2,3,4,5,6,7,8,9,10,11,12,13],14),([0,1,2,3,4,5,6,7,8,9,10,11,12,13,14],15),([0,1,2,3,4,5,6,7],16),([0,1,2,3,4,5,6,7,16],17),([0,1,2,3,4,5,6,7,8,9,10,11,12,13,14,15,16,17],18),([0,1,2,3,4,5,6,7,8,9,10,11,12,13,14,15,16,17,18],19)] 18 ?_ | refine sD tOK tmix [([],5),([],0),([],6),([2],7),([2,3],8),([2,3,4],9),([],10),([2,3,4,5,6],11),([1,2,3,4,5,6,7],1),([],12),([9],2),([1,2,3,4,5,6,7,8,9,10],3),([],13),([12],14),([12,13],15),([12,13,14],16),([],17),([12,13,14,15,16],18),([1,2,3,4,5,6,7,8,9,10,11,12,13,14,15,16,17],4),([0,1,2,3,4,5,6,7,8,9,10,11,12,13,14,15,16,17,18],19),([0,1,2,3,4,5,6,7,8,9,10,11,12,13,14,15,16,17,18,19],20),([0,1,2,3,4,5,6,7,8,9,10,11,12,13,14,15,16,17,18,19,20],21)] 19 ?_ | refine qD _ ?_ ?_ | refine cE Tryz.func68 tOK fun R9 hR9 => ?_)
        refine ⟨fun b => b != 24, .int .i64 0, _, rfl, keep_row (r := 46) (m := 24) (ys := (d.files.take k).map eF ++ eF (s.data.toList, ⟨b, 0⟩) :: (d.files.drop k).map eF) (by decide) rfl (mapM_app (fp_tk _ _ _ _) (mapM_cns (fp_file' (bs := b) rfl rfl) (fp_dr _ _ _ _))), ?_⟩
        refine h _ rfl _ (.row 46 3 (by decide) ?_ ?_)
        ·simp [burn]; omega
        ·simp [burn]
   | some i =>
    obtain ⟨h1, h2, h3⟩ := pos_some hp
    rw [h3] at h
    rw [posI_some hp] at ca
    simp only at h
    by_cases hroom : d.room - used d.files < b.length
    ·rw [if_pos hroom] at h
     have F9 := And.intro @bf <| @br
     repeat' (first | refine gf ?_ | refine s_seq fun y9 hy9 => ?_ | refine qT _ ?_ ?_ | refine qG _ ?_ ?_ | refine qN ?_ ?_ | (refine QB.mk fun hb9 => ?_; (try simp only [hb9]); (try simp at hb9); first | (exfalso; omega) | subst hb9 | skip) | refine sD tOK tmix [([],0),([0],1),([0,1],2),([0,1,2],3),([0,1,2,3],4),([0,1,2,3,4],5),([0,1,2,3,4,5],6),([0,1,2,3,4,5,6],7),([0,1,2,3,4,5,6,7],8),([0,1,2,3,4,5,6,7,8],9),([0,1,2,3,4,5,6,7,8,9],10),([0,1,2,3,4,5,6,7,8,9,10],11),([0,1,2,3,4,5,6,7,8,9,10,11],12),([0,1,2,3,4,5,6,7,8,9,10],13),([0,1,2,3,4,5,6,7,8,9,10,13],14),([0,1,2,3,4,5,6,7,8,9,10,13,14],15),([0,1,2,3,4,5,6,7,8,9,10,13,14,15],16),([0,1,2,3,4,5,6,7,8,9,10],17),([0,1,2,3,4,5,6,7,8,9,10,17],18),([0,1,2,3,4,5,6,7,8,9,10,13,14,15,16,17,18],19),([0,1,2,3,4,5,6,7,8,9,10,11,12,13,14,15,16,17,18,19],20),([0,1,2,3,4,5,6,7,8,9,10,11,12,13,14,15,16,17,18,19,20],21)] 20 ?_ | refine sD tOK tmix [([],3),([0],4),([0,1],5),([0,1,2],6),([],7),([],0),([],8),([6],9),([6,7],10),([6,7,8],11),([],12),([6,7,8,9,10],13),([6,7,8,9,10,11],14),([6,7,8,9,10,11,12],15),([5,6,7,8,9,10,11,12,13],1),([],16),([5,6,7,8,9,10,11,12,13,14,15],2),([0,1,2,3,4,5,6,7,8,9,10,11,12,13,14,15,16],17),([0,1,2,3,4,5,6,7,8,9,10,11,12,13,14,15,16,17],18),([0,1,2,3,4,5,6,7,8,9,10,11,12,13,14,15,16,17,18],19)] 17 ?_ | refine qD _ ?_ ?_ | (refine nZ ?_; first | refine cc ?_ | refine cn ?_ | refine ca ?_) | (apply d_call []; exact rfl; (solve | (conv => lhs; try simp [bf,br])); (solve | exact rfl | simp); (solve | (conv => lhs; try simp [bf,br])); intro τ hτ; refine nZ ?_; first | exact cc ⟨rfl, rfl⟩ | exact cn ⟨rfl, rfl⟩ | exact ca ⟨rfl, rfl⟩) | (apply d_call [0,1]; exact rfl; (solve | (conv => lhs; try simp [bf,br])); (solve | exact rfl | simp); (solve | (conv => lhs; try simp [bf,br])); intro τ hτ; exact (R_used_a (d:=burn d) (i:=0) (l:=1) (g:=g) (by decide) ((hτ 0 (by simp)).trans rfl) ((hτ 1 (by simp)).trans rfl) (by show d.files.length < 1000000; omega) (by show used d.files < _; omega)) ⟨rfl, rfl⟩))
     exact k_id (h _ rfl _ (.row 1 g (by decide) rfl rfl))
    ·rw [if_neg hroom] at h
     replace hb : b.length < 1000000000 := by have := hI.room1; have := hI.room0; omega
     have hsz := (hI.flOK h3).sz
     rw [dput_set hS h1 h2] at h
     have F9 := And.intro @bf <| @br
     repeat' (first | refine gf ?_ | refine s_seq fun y9 hy9 => ?_ | refine qT _ ?_ ?_ | refine qG _ ?_ ?_ | refine qN ?_ ?_ | (refine QB.mk fun hb9 => ?_; (try simp only [hb9]); (try simp at hb9); first | (exfalso; omega) | subst hb9 | skip) | refine sD tOK tmix [([],0),([0],1),([0,1],2),([0,1,2],3),([0,1,2,3],4),([0,1,2,3,4],5),([0,1,2,3,4,5],6),([0,1,2,3,4,5,6],7),([0,1,2,3,4,5,6,7],8),([0,1,2,3,4,5,6,7,8],9),([0,1,2,3,4,5,6,7,8,9],10),([0,1,2,3,4,5,6,7,8,9,10],11),([0,1,2,3,4,5,6,7,8,9,10,11],12),([0,1,2,3,4,5,6,7,8,9,10],13),([0,1,2,3,4,5,6,7,8,9,10,13],14),([0,1,2,3,4,5,6,7,8,9,10,13,14],15),([0,1,2,3,4,5,6,7,8,9,10,13,14,15],16),([0,1,2,3,4,5,6,7,8,9,10],17),([0,1,2,3,4,5,6,7,8,9,10,17],18),([0,1,2,3,4,5,6,7,8,9,10,13,14,15,16,17,18],19),([0,1,2,3,4,5,6,7,8,9,10,11,12,13,14,15,16,17,18,19],20),([0,1,2,3,4,5,6,7,8,9,10,11,12,13,14,15,16,17,18,19,20],21)] 20 ?_ | refine sD tOK tmix [([],3),([0],4),([0,1],5),([0,1,2],6),([],7),([],0),([],8),([6],9),([6,7],10),([6,7,8],11),([],12),([6,7,8,9,10],13),([6,7,8,9,10,11],14),([6,7,8,9,10,11,12],15),([5,6,7,8,9,10,11,12,13],1),([],16),([5,6,7,8,9,10,11,12,13,14,15],2),([0,1,2,3,4,5,6,7,8,9,10,11,12,13,14,15,16],17),([0,1,2,3,4,5,6,7,8,9,10,11,12,13,14,15,16,17],18),([0,1,2,3,4,5,6,7,8,9,10,11,12,13,14,15,16,17,18],19)] 17 ?_ | refine qD _ ?_ ?_ | (refine nZ ?_; first | refine cc ?_ | refine cn ?_ | refine ca ?_) | (apply d_call []; exact rfl; (solve | (conv => lhs; try simp [bf,br])); (solve | exact rfl | simp); (solve | (conv => lhs; try simp [bf,br])); intro τ hτ; refine nZ ?_; first | exact cc ⟨rfl, rfl⟩ | exact cn ⟨rfl, rfl⟩ | exact ca ⟨rfl, rfl⟩) | (apply d_call [0,1]; exact rfl; (solve | (conv => lhs; try simp [bf,br])); (solve | exact rfl | simp); (solve | (conv => lhs; try simp [bf,br])); intro τ hτ; exact (R_used_a (d:=burn d) (i:=0) (l:=1) (g:=g) (by decide) ((hτ 0 (by simp)).trans rfl) ((hτ 1 (by simp)).trans rfl) (by show d.files.length < 1000000; omega) (by show used d.files < _; omega)) ⟨rfl, rfl⟩))
     have e : u8l (gt d.files i).2.b ++ u8l b = u8l ((gt d.files i).2.b ++ b) := by simp [u8l]
     rw [e]
     refine ⟨fun b => b != 24, .int .i64 0, _, rfl, keep_row (r := 1) (m := 24) (by decide) rfl (mapM_set (fp_map _ _ _) (fp_file rfl (by simp))), ?_⟩
     refine h _ rfl _ (.row 1 g (by decide) ?_ ?_)
     ·simp [burn]
     ·simp [burn, List.map_set, h2]
end
theorem ren_rdA (r : Nat → Nat) (d : Dk) : renBlk r (rSt d (.lit [])) = rSt d (.lit []) := by
 simp [renBlk, renL, ren]
section
variable {R : Re → Store → Prop} {σ : Store} {d : Dk} {n : Int} {i f : Nat} {args : List PV} {v : PV}
theorem R_at00 (st : σ[i]? = some (some (rSt d (.lit [])))) (hargs : allL (fun b => decide (b < 1)) args = true)
  (hspec : ∀ R : Re → Store → Prop, R (.ret v) (rdA d) → C tE f args (rdA d) R) (hv : ∀ τ, frz τ 6 v = some v) (h : R (.ret v) σ) : C tE f (renL (nth [i]) args) σ R := by
 have hall : allStore (fun b => decide (b < 1)) (rdA d) = true := by simp [allStore, allBlk, allL, allB]
 refine C_own (σ0 := rdA d) tOK [i] (by simp) rfl hargs hall (fun k hk => ?_) ?_
 ·have hk : k = 0 := by simp at hk; omega
  subst hk
  simp only [nth, renStore, List.map_cons, List.map_nil, Option.map_some, ren_rdA]
  simp [st]
 ·refine hspec _ ?_
  unfold ownRe
  refine ⟨by rw [show (rdA d).take [i].length = rdA d from rfl]; exact hall, ?_⟩
  simp only [hv]
  have : putAll σ [i] (renStore (nth [i]) ((rdA d).take [i].length)) = σ := by
   rw [show (rdA d).take [i].length = rdA d from rfl]
   simp only [renStore, List.map_cons, List.map_nil, Option.map_some, putAll, ren_rdA]
   rw [set_self_of st]
  rw [this]; exact h
theorem R_used_a0 (st : Store.at σ i = some (rSt d (.lit []))) (h : R (.ret (i64 0)) σ) : C tE 19 [.ptr i 0 0 []] σ R :=
 R_at00 (args := [.ptr 0 0 0 []]) (at_get st) rfl (fun R h => R_used_0 h) (fun τ => rfl) h
set_option maxHeartbeats 4000000 in
theorem R_write_0 {s : ByteArray} {b : List UInt8} (hI : Inv d) (h0' : d.files = []) (hb : b.length ≤ 9223372036854775807) (cn : ∀ {R : Re → Store → Prop} {σ : Store}, R (.ret (.bool (named s))) σ → C tE 66 [.str s] σ R)
  (h : ∀ d', (write d s b).2 = d' → ∀ σ', RdAt σ' 0 d' → R (.ret (i64 (write d s b).1)) σ') : C tE 37 [.ptr 0 0 0 [], .str s, .lit (u8l b)] (rdA d) R := by
 have f0 := hI.fuse0
 have f1 := hI.fuse1
 have hr0 := hI.room0
 have hr1 := hI.room1
 have ca : ∀ {R : Re → Store → Prop}, R (.ret (i64 (-1))) (rdA (burn d)) → C tE 51 [.ptr 0 0 0 [], .str s] (rdA (burn d)) R := fun h => R_at_0 (L := d) h
 have bf : (burn d).files = d.files := rfl
 have br : (burn d).room = d.room := rfl
 unfold write at h
 rw [show dget s.data.toList d.files = none by rw [h0']; rfl] at h
 refine C_keep tOK ?_
 by_cases h0 : d.fuse = 0
 ·have cc : ∀ {R : Re → Store → Prop}, R (.ret (.bool false)) (rdA d) → C tE 65 [.ptr 0 0 0 []] (rdA d) R := fun h => R_call f0 f1 (by rw [if_pos h0]; simpa [h0] using h)
  rw [if_pos (by simpa using h0)] at h
  refine s_body' Tryz.func37 tOK rfl (by conv => lhs; simp) (by conv => lhs; simp) (by conv => lhs; simp [Fr.args]) rfl (by conv => lhs; try simp) fun R9 hR9 => ?_
  repeat' (first | refine go ?_ | refine s_seq fun y9 hy9 => ?_ | refine qT _ ?_ ?_ | refine qG _ ?_ ?_ | refine qN ?_ ?_ | (refine QB.mk fun hb9 => ?_; (try simp only [hb9]); (try simp at hb9); first | (exfalso; omega) | subst hb9 | skip) | refine sD tOK tmix [([],0),([0],1),([0,1],2),([0,1,2],3),([0,1,2,3],4),([0,1,2,3,4],5),([0,1,2,3,4,5],6),([0,1,2,3,4,5,6],7),([0,1,2,3,4,5,6,7],8),([0,1,2,3,4,5,6,7,8],9),([0,1,2,3,4,5,6,7,8,9],10),([0,1,2,3,4,5,6,7,8,9,10],11),([0,1,2,3,4,5,6,7,8,9,10,11],12),([0,1,2,3,4,5,6,7,8,9,10],13),([0,1,2,3,4,5,6,7,8,9,10,13],14),([0,1,2,3,4,5,6,7,8,9,10,13,14],15),([0,1,2,3,4,5,6,7,8,9,10,13,14,15],16),([0,1,2,3,4,5,6,7,8,9,10],17),([0,1,2,3,4,5,6,7,8,9,10,17],18),([0,1,2,3,4,5,6,7,8,9,10,13,14,15,16,17,18],19),([0,1,2,3,4,5,6,7,8,9,10,11,12,13,14,15,16,17,18,19],20),([0,1,2,3,4,5,6,7,8,9,10,11,12,13,14,15,16,17,18,19,20],21)] 20 ?_ | refine sD tOK tmix [([],3),([0],4),([0,1],5),([0,1,2],6),([],7),([],0),([],8),([6],9),([6,7],10),([6,7,8],11),([],12),([6,7,8,9,10],13),([6,7,8,9,10,11],14),([6,7,8,9,10,11,12],15),([5,6,7,8,9,10,11,12,13],1),([],16),([5,6,7,8,9,10,11,12,13,14,15],2),([0,1,2,3,4,5,6,7,8,9,10,11,12,13,14,15,16],17),([0,1,2,3,4,5,6,7,8,9,10,11,12,13,14,15,16,17],18),([0,1,2,3,4,5,6,7,8,9,10,11,12,13,14,15,16,17,18],19)] 17 ?_ | refine qD _ ?_ ?_ | (refine nZ ?_; refine cc ?_) | (apply d_call []; exact rfl; (solve | (conv => lhs; try simp)); (solve | exact rfl | simp); (solve | (conv => lhs; try simp)); intro τ hτ; refine nZ ?_; first | exact cc ⟨rfl, rfl⟩))
  exact k_id (h _ rfl _ (.nil h0' rfl))
 ·have hb0 : (d.fuse == 0) = false := by rw [beq_eq_false_iff_ne]; exact h0
  have cc : ∀ {R : Re → Store → Prop}, R (.ret (.bool true)) (rdA (burn d)) → C tE 65 [.ptr 0 0 0 []] (rdA d) R := fun h => R_call f0 f1 (by rw [if_neg h0, hb0]; exact h)
  rw [if_neg (by rw [hb0]; simp)] at h
  refine s_body' Tryz.func37 tOK rfl (by conv => lhs; simp) (by conv => lhs; simp) (by conv => lhs; simp [Fr.args]) rfl (by conv => lhs; try simp) fun R9 hR9 => ?_
  cases hnm : named s with
  | false =>
   rw [hnm] at cn
   rw [if_pos hnm] at h
   repeat' (first | refine go ?_ | refine s_seq fun y9 hy9 => ?_ | refine qT _ ?_ ?_ | refine qG _ ?_ ?_ | refine qN ?_ ?_ | (refine QB.mk fun hb9 => ?_; (try simp only [hb9]); (try simp at hb9); first | (exfalso; omega) | subst hb9 | skip) | refine sD tOK tmix [([],0),([0],1),([0,1],2),([0,1,2],3),([0,1,2,3],4),([0,1,2,3,4],5),([0,1,2,3,4,5],6),([0,1,2,3,4,5,6],7),([0,1,2,3,4,5,6,7],8),([0,1,2,3,4,5,6,7,8],9),([0,1,2,3,4,5,6,7,8,9],10),([0,1,2,3,4,5,6,7,8,9,10],11),([0,1,2,3,4,5,6,7,8,9,10,11],12),([0,1,2,3,4,5,6,7,8,9,10],13),([0,1,2,3,4,5,6,7,8,9,10,13],14),([0,1,2,3,4,5,6,7,8,9,10,13,14],15),([0,1,2,3,4,5,6,7,8,9,10,13,14,15],16),([0,1,2,3,4,5,6,7,8,9,10],17),([0,1,2,3,4,5,6,7,8,9,10,17],18),([0,1,2,3,4,5,6,7,8,9,10,13,14,15,16,17,18],19),([0,1,2,3,4,5,6,7,8,9,10,11,12,13,14,15,16,17,18,19],20),([0,1,2,3,4,5,6,7,8,9,10,11,12,13,14,15,16,17,18,19,20],21)] 20 ?_ | refine sD tOK tmix [([],3),([0],4),([0,1],5),([0,1,2],6),([],7),([],0),([],8),([6],9),([6,7],10),([6,7,8],11),([],12),([6,7,8,9,10],13),([6,7,8,9,10,11],14),([6,7,8,9,10,11,12],15),([5,6,7,8,9,10,11,12,13],1),([],16),([5,6,7,8,9,10,11,12,13,14,15],2),([0,1,2,3,4,5,6,7,8,9,10,11,12,13,14,15,16],17),([0,1,2,3,4,5,6,7,8,9,10,11,12,13,14,15,16,17],18),([0,1,2,3,4,5,6,7,8,9,10,11,12,13,14,15,16,17,18],19)] 17 ?_ | refine qD _ ?_ ?_ | (refine nZ ?_; first | refine cc ?_ | refine cn ?_) | (apply d_call []; exact rfl; (solve | (conv => lhs; try simp)); (solve | exact rfl | simp); (solve | (conv => lhs; try simp)); intro τ hτ; refine nZ ?_; first | exact cc ⟨rfl, rfl⟩ | exact cn ⟨rfl, rfl⟩))
   exact k_id (h _ rfl _ (.nil h0' rfl))
  | true =>
   rw [hnm] at cn
   rw [if_neg (by rw [hnm]; simp)] at h
   simp only at h
   rw [if_neg (by rw [h0']; decide)] at h
   have hus : used d.files = 0 := by rw [h0']; rfl
   rw [hus] at h
   by_cases hroom : d.room < b.length
   ·rw [if_pos (by simpa using hroom)] at h
    have F9 := And.intro @bf <| @br
    repeat' (first | refine gf ?_ | refine s_seq fun y9 hy9 => ?_ | refine qT _ ?_ ?_ | refine qG _ ?_ ?_ | refine qN ?_ ?_ | (refine QB.mk fun hb9 => ?_; (try simp only [hb9]); (try simp at hb9); first | (exfalso; omega) | subst hb9 | skip) | refine sD tOK tmix [([],0),([0],1),([0,1],2),([0,1,2],3),([0,1,2,3],4),([0,1,2,3,4],5),([0,1,2,3,4,5],6),([0,1,2,3,4,5,6],7),([0,1,2,3,4,5,6,7],8),([0,1,2,3,4,5,6,7,8],9),([0,1,2,3,4,5,6,7,8,9],10),([0,1,2,3,4,5,6,7,8,9,10],11),([0,1,2,3,4,5,6,7,8,9,10,11],12),([0,1,2,3,4,5,6,7,8,9,10],13),([0,1,2,3,4,5,6,7,8,9,10,13],14),([0,1,2,3,4,5,6,7,8,9,10,13,14],15),([0,1,2,3,4,5,6,7,8,9,10,13,14,15],16),([0,1,2,3,4,5,6,7,8,9,10],17),([0,1,2,3,4,5,6,7,8,9,10,17],18),([0,1,2,3,4,5,6,7,8,9,10,13,14,15,16,17,18],19),([0,1,2,3,4,5,6,7,8,9,10,11,12,13,14,15,16,17,18,19],20),([0,1,2,3,4,5,6,7,8,9,10,11,12,13,14,15,16,17,18,19,20],21)] 20 ?_ | refine sD tOK tmix [([],3),([0],4),([0,1],5),([0,1,2],6),([],7),([],0),([],8),([6],9),([6,7],10),([6,7,8],11),([],12),([6,7,8,9,10],13),([6,7,8,9,10,11],14),([6,7,8,9,10,11,12],15),([5,6,7,8,9,10,11,12,13],1),([],16),([5,6,7,8,9,10,11,12,13,14,15],2),([0,1,2,3,4,5,6,7,8,9,10,11,12,13,14,15,16],17),([0,1,2,3,4,5,6,7,8,9,10,11,12,13,14,15,16,17],18),([0,1,2,3,4,5,6,7,8,9,10,11,12,13,14,15,16,17,18],19)] 17 ?_ | refine qD _ ?_ ?_ | (refine nZ ?_; first | refine cc ?_ | refine cn ?_ | refine ca ?_) | (apply d_call []; exact rfl; (solve | (conv => lhs; try simp [bf,br])); (solve | exact rfl | simp); (solve | (conv => lhs; try simp [bf,br])); intro τ hτ; refine nZ ?_; first | exact cc ⟨rfl, rfl⟩ | exact cn ⟨rfl, rfl⟩ | exact ca ⟨rfl, rfl⟩) | (apply d_call [0]; exact rfl; (solve | (conv => lhs; try simp [bf,br])); (solve | exact rfl | simp); (solve | (conv => lhs; try simp [bf,br])); intro τ hτ; exact (R_used_a0 (d:=burn d) (i:=0) ((hτ 0 (by simp)).trans rfl)) ⟨rfl, rfl⟩))
    exact k_id (h _ rfl _ (.nil h0' rfl))
   ·rw [if_neg (by simpa using hroom)] at h
    have F9 := And.intro @bf <| @br
    repeat' (first | refine gf ?_ | refine s_seq fun y9 hy9 => ?_ | refine qT _ ?_ ?_ | refine qG _ ?_ ?_ | refine qN ?_ ?_ | (refine QB.mk fun hb9 => ?_; (try simp only [hb9]); (try simp at hb9); first | (exfalso; omega) | subst hb9 | skip) | refine w_loop fun y9 hy9 => ?_ | (apply w_again; assumption) | refine sD tOK tmix [([],0),([0],1),([0,1],2),([0,1,2],3),([0,1,2,3],4),([0,1,2,3,4],5),([0,1,2,3,4,5],6),([0,1,2,3,4,5,6],7),([0,1,2,3,4,5,6,7],8),([0,1,2,3,4,5,6,7,8],9),([0,1,2,3,4,5,6,7,8,9],10),([0,1,2,3,4,5,6,7,8,9,10],11),([0,1,2,3,4,5,6,7,8,9,10,11],12),([0,1,2,3,4,5,6,7,8,9,10],13),([0,1,2,3,4,5,6,7,8,9,10,13],14),([0,1,2,3,4,5,6,7,8,9,10,13,14],15),([0,1,2,3,4,5,6,7,8,9,10,13,14,15],16),([0,1,2,3,4,5,6,7,8,9,10],17),([0,1,2,3,4,5,6,7,8,9,10,17],18),([0,1,2,3,4,5,6,7,8,9,10,13,14,15,16,17,18],19),([0,1,2,3,4,5,6,7,8,9,10,11,12,13,14,15,16,17,18,19],20),([0,1,2,3,4,5,6,7,8,9,10,11,12,13,14,15,16,17,18,19,20],21)] 20 ?_ | refine sD tOK tmix [([],3),([0],4),([0,1],5),([0,1,2],6),([],7),([],0),([],8),([6],9),([6,7],10),([6,7,8],11),([],12),([6,7,8,9,10],13),([6,7,8,9,10,11],14),([6,7,8,9,10,11,12],15),([5,6,7,8,9,10,11,12,13],1),([],16),([5,6,7,8,9,10,11,12,13,14,15],2),([0,1,2,3,4,5,6,7,8,9,10,11,12,13,14,15,16],17),([0,1,2,3,4,5,6,7,8,9,10,11,12,13,14,15,16,17],18),([0,1,2,3,4,5,6,7,8,9,10,11,12,13,14,15,16,17,18],19)] 17 ?_ | refine sD tOK tmix [([],0),([],1),([1],2),([1,2],3),([1,2,3],4),([1,2,3,4],5),([0,1,2,3,4,5],6),([0,1,2,3,4,5,6],7),([0,1,2,3,4,5,6,7],8),([0,1,2,3,4,5,6,7,8],9),([0,1,2,3,4,5,6,7,8,9],10),([0,1,2,3,4,5,6,7,8,9,10],11),([0,1,2,3,4,5,6,7],12),([0,1,2,3,4,5,6,7,8,9,10,11,12],13),([0,1,2,3,4,5,6,7,8,9,10,11,12,13],14),([0,1,2,3,4,5,6,7,8,9,10,11,12,13,14],15),([0,1,2,3,4,5,6,7],16),([0,1,2,3,4,5,6,7,16],17),([0,1,2,3,4,5,6,7,8,9,10,11,12,13,14,15,16,17],18),([0,1,2,3,4,5,6,7,8,9,10,11,12,13,14,15,16,17,18],19)] 18 ?_ | refine sD tOK tmix [([],5),([],0),([],6),([2],7),([2,3],8),([2,3,4],9),([],10),([2,3,4,5,6],11),([1,2,3,4,5,6,7],1),([],12),([9],2),([1,2,3,4,5,6,7,8,9,10],3),([],13),([12],14),([12,13],15),([12,13,14],16),([],17),([12,13,14,15,16],18),([1,2,3,4,5,6,7,8,9,10,11,12,13,14,15,16,17],4),([0,1,2,3,4,5,6,7,8,9,10,11,12,13,14,15,16,17,18],19),([0,1,2,3,4,5,6,7,8,9,10,11,12,13,14,15,16,17,18,19],20),([0,1,2,3,4,5,6,7,8,9,10,11,12,13,14,15,16,17,18,19,20],21)] 19 ?_ | refine qD _ ?_ ?_ | refine cE Tryz.func68 tOK fun R9 hR9 => ?_ | (refine nZ ?_; first | refine cc ?_ | refine cn ?_ | refine ca ?_) | (apply d_call []; exact rfl; (solve | (conv => lhs; try simp [bf,br])); (solve | exact rfl | simp); (solve | (conv => lhs; try simp [bf,br])); intro τ hτ; refine nZ ?_; first | exact cc ⟨rfl, rfl⟩ | exact cn ⟨rfl, rfl⟩ | exact ca ⟨rfl, rfl⟩) | (apply d_call [0]; exact rfl; (solve | (conv => lhs; try simp [bf,br])); (solve | exact rfl | simp); (solve | (conv => lhs; try simp [bf,br])); intro τ hτ; exact (R_used_a0 (d:=burn d) (i:=0) ((hτ 0 (by simp)).trans rfl)) ⟨rfl, rfl⟩))
    have hdp : dput s.data.toList ⟨b, 0⟩ d.files = [(s.data.toList, ⟨b, 0⟩)] := by rw [h0']; rfl
    rw [hdp] at h
    refine ⟨fun b => b != 23, .int .i64 0, _, rfl, keep_row (r := 45) (m := 23) (ys := [eF (s.data.toList, ⟨b, 0⟩)]) (by decide) rfl (mapM_one (fp_file' (bs := b) rfl rfl)), ?_⟩
    refine h _ rfl _ (.row 45 3 (by decide) ?_ ?_)
    ·simp [burn]
    ·simp [burn]
end
section
variable {R : Re → Store → Prop} {d : Dk} {n : Int} {g : Nat}
set_option maxHeartbeats 4000000 in
theorem R_rename {s t : ByteArray} (hI : Inv d) (hS : srt d.files) (cn : ∀ {R : Re → Store → Prop} {σ : Store}, R (.ret (.bool (named t))) σ → C tE 66 [.str t] σ R)
  (h : ∀ d', (rename d s t).2 = d' → ∀ σ', RdAt σ' 0 d' → R (.ret (i64 (rename d s t).1)) σ') : C tE 32 [.ptr 0 0 0 [], .str s, .str t] (rdB g d) R := by
 have hn := hI.n
 have f0 := hI.fuse0
 have f1 := hI.fuse1
 have ca : ∀ {R : Re → Store → Prop}, R (.ret (i64 (posI s.data.toList d.files))) (rdB g (burn d)) → C tE 51 [.ptr 0 0 0 [], .str s] (rdB g (burn d)) R := fun h => R_at (d := burn d) (by show d.files.length < 1000000; omega) h
 have bf : (burn d).files = d.files := rfl
 have br : (burn d).room = d.room := rfl
 unfold rename at h
 by_cases h0 : d.fuse = 0
 ·have cc : ∀ {R : Re → Store → Prop}, R (.ret (.bool false)) (rdB g d) → C tE 65 [.ptr 0 0 0 []] (rdB g d) R := fun h => R_call f0 f1 (by rw [if_pos h0]; simpa [h0] using h)
  rw [if_pos (by simpa using h0)] at h
  refine s_body' Tryz.func32 tOK rfl (by conv => lhs; simp) (by conv => lhs; simp) (by conv => lhs; simp [Fr.args]) rfl (by conv => lhs; try simp) fun R9 hR9 => ?_
  repeat' (first | refine go ?_ | refine s_seq fun y9 hy9 => ?_ | refine qT _ ?_ ?_ | refine qG _ ?_ ?_ | refine qN ?_ ?_ | (refine QB.mk fun hb9 => ?_; (try simp only [hb9]); (try simp at hb9); first | (exfalso; omega) | subst hb9 | skip) | (refine nZ ?_; refine cc ?_))
  exact h _ rfl _ (.row 1 g (by decide) rfl rfl)
 ·have hb0 : (d.fuse == 0) = false := by rw [beq_eq_false_iff_ne]; exact h0
  have cc : ∀ {R : Re → Store → Prop}, R (.ret (.bool true)) (rdB g (burn d)) → C tE 65 [.ptr 0 0 0 []] (rdB g d) R := fun h => R_call f0 f1 (by rw [if_neg h0, hb0]; exact h)
  rw [if_neg (by rw [hb0]; simp)] at h
  refine s_body' Tryz.func32 tOK rfl (by conv => lhs; simp) (by conv => lhs; simp) (by conv => lhs; simp [Fr.args]) rfl (by conv => lhs; try simp) fun R9 hR9 => ?_
  cases hnm : named t with
  | false =>
   rw [hnm] at cn
   rw [if_pos hnm] at h
   repeat' (first | refine go ?_ | refine s_seq fun y9 hy9 => ?_ | refine qT _ ?_ ?_ | refine qG _ ?_ ?_ | refine qN ?_ ?_ | (refine QB.mk fun hb9 => ?_; (try simp only [hb9]); (try simp at hb9); first | (exfalso; omega) | subst hb9 | skip) | (refine nZ ?_; first | refine cc ?_ | refine cn ?_))
   exact h _ rfl _ (.row 1 g (by decide) rfl rfl)
  | true =>
   rw [hnm] at cn
   rw [if_neg (by rw [hnm]; simp)] at h
   cases hp : pos s.data.toList d.files with
   | none =>
    rw [pos_none hp] at h
    rw [posI_none hp] at ca
    have F9 := And.intro @bf <| @br
    repeat' (first | refine gf ?_ | refine s_seq fun y9 hy9 => ?_ | refine qT _ ?_ ?_ | refine qG _ ?_ ?_ | refine qN ?_ ?_ | (refine QB.mk fun hb9 => ?_; (try simp only [hb9]); (try simp at hb9); first | (exfalso; omega) | subst hb9 | skip) | (refine nZ ?_; first | refine cc ?_ | refine cn ?_ | refine ca ?_))
    exact h _ rfl _ (.row 1 g (by decide) rfl rfl)
   | some i =>
    obtain ⟨h1, h2, h3⟩ := pos_some hp
    rw [h3] at h
    rw [posI_some hp] at ca
    simp only at h
    have hd := ddel_at hS h1 h2
    obtain ⟨D, hD⟩ : ∃ D, ddel s.data.toList d.files = D := ⟨_, rfl⟩
    rw [hD] at hd h
    have q1 : i ≤ d.files.length := by omega
    have q2 : (i : Int) + 1 ≤ d.files.length := by omega
    have q3 : i + 1 ≤ d.files.length := by omega
    have q4 : ((i : Int) + 1).toNat = i + 1 := by omega
    have q5 : min i d.files.length = i := by omega
    have q6 : ((d.files.length : Int) - ((i : Int) + 1)).toNat = d.files.length - (i + 1) := by omega
    have q7 : i + 1 + (d.files.length - (i + 1)) = d.files.length := by omega
    have q8 : ((d.files.map eF).drop (i + 1)).take (d.files.length - (i + 1)) = (d.files.map eF).drop (i + 1) := List.take_of_length_le (by simp)
    have q9 : ((d.files.map eF).take i).take i = (d.files.map eF).take i := List.take_of_length_le (by simp; omega)
    have q11 : i + (d.files.length - (i + 1)) = D.length := by rw [hd]; simp; omega
    have q12 : (d.files.map eF).take i ++ (d.files.map eF).drop (i + 1) = D.map eF := by rw [hd]; simp
    have hDl : D.length ≤ 64 := by omega
    cases hp2 : pos t.data.toList D with
    | none =>
     have ca2 : ∀ {R : Re → Store → Prop} {σ : Store} {l g : Nat}, Store.at σ 0 = some (rSt { burn d with files := D } (.ref l g 0 D.length)) → Store.at σ l = some (.cells 74 g (D.map eF)) → (0 != l) = true → R (.ret (i64 (-1))) σ → C tE 51 [.ptr 0 0 0 [], .str t] σ R := fun st ls ne h => R_at_b (d := { burn d with files := D }) st ls ne (by show D.length < _; omega) (by show _; rw [show posI t.data.toList D = -1 from posI_none hp2]; exact h)
     have F9 := And.intro @bf <| And.intro @q1 <| And.intro @q2 <| And.intro @q3 <| And.intro @q4 <| And.intro @q5 <| And.intro @q6 <| And.intro @q7 <| And.intro @q8 <| And.intro @q9 <| And.intro @q11 <| @q12
     repeat' (first | refine gf ?_ | refine s_seq fun y9 hy9 => ?_ | refine qT _ ?_ ?_ | refine qG _ ?_ ?_ | refine qN ?_ ?_ | (refine QB.mk fun hb9 => ?_; (try simp only [hb9]); (try simp at hb9); first | (exfalso; omega) | subst hb9 | skip) | refine sD tOK tmix [([],0),([],3),([],4),([1,2],5),([0,1,2,3],1),([],6),([],7),([6],8),([5,6,7],9),([0,1,2,3,4,5,6,7,8],2),([0,1,2,3,4,5,6,7,8,9],10)] 9 ?_ | refine sD tOK tmix [([],0),([],1),([1],2),([1,2],3),([1,2,3],4),([1,2,3,4],5),([0,1,2,3,4,5],6),([0,1,2,3,4,5,6],7),([0,1,2,3,4,5,6,7],8),([0,1,2,3,4,5,6,7,8],9),([0,1,2,3,4,5,6,7,8,9],10),([0,1,2,3,4,5,6,7,8,9,10],11),([0,1,2,3,4,5,6,7],12),([0,1,2,3,4,5,6,7,8,9,10,11,12],13),([0,1,2,3,4,5,6,7,8,9,10,11,12,13],14),([0,1,2,3,4,5,6,7,8,9,10,11,12,13,14],15),([0,1,2,3,4,5,6,7],16),([0,1,2,3,4,5,6,7,16],17),([0,1,2,3,4,5,6,7,8,9,10,11,12,13,14,15,16,17],18),([0,1,2,3,4,5,6,7,8,9,10,11,12,13,14,15,16,17,18],19)] 18 ?_ | refine sD tOK tmix [([],5),([],0),([],6),([2],7),([2,3],8),([2,3,4],9),([],10),([2,3,4,5,6],11),([1,2,3,4,5,6,7],1),([],12),([9],2),([1,2,3,4,5,6,7,8,9,10],3),([],13),([12],14),([12,13],15),([12,13,14],16),([],17),([12,13,14,15,16],18),([1,2,3,4,5,6,7,8,9,10,11,12,13,14,15,16,17],4),([0,1,2,3,4,5,6,7,8,9,10,11,12,13,14,15,16,17,18],19),([0,1,2,3,4,5,6,7,8,9,10,11,12,13,14,15,16,17,18,19],20),([0,1,2,3,4,5,6,7,8,9,10,11,12,13,14,15,16,17,18,19,20],21)] 19 ?_ | refine qD _ ?_ ?_ | refine cE Tryz.func67 tOK fun R9 hR9 => ?_ | refine cE Tryz.func68 tOK fun R9 hR9 => ?_ | (refine nZ ?_; first | refine cc ?_ | refine cn ?_ | refine ca ?_ | refine (ca2 rfl rfl rfl) ?_) | (apply d_call []; exact rfl; (solve | (conv => lhs; try simp [bf,q1,q2,q3,q4,q5,q6,q7,q8,q9,q11,q12])); (solve | exact rfl | simp); (solve | (conv => lhs; try simp [bf,q1,q2,q3,q4,q5,q6,q7,q8,q9,q11,q12])); intro τ hτ; refine nZ ?_; first | exact cc ⟨rfl, rfl⟩ | exact cn ⟨rfl, rfl⟩ | exact ca ⟨rfl, rfl⟩ | exact (ca2 rfl rfl rfl) ⟨rfl, rfl⟩))
     refine s_loop fun c9 hc9 => ?_
     refine w_trim 15 [0, 3, 4] (by conv => lhs; simp) (by conv => lhs; simp) (by first | rfl | simp) (by first | rfl | simp) ?_
     refine s_loopn D.length (fun k fr σ => fr = [(0, .ptr 0 0 0 []), (3, .ptr 14 0 0 []), (4, i64 k)] ∧ σ = [some (.cells 57 0 [.agg 57 [i64 (burn d).room, .ref 3 2 0 D.length, i64 (burn d).fuse, i64 (burn d).fail]]), some (.cells 74 g (d.files.map eF)),
      some (.cells 74 0 [.agg 74 [.str t, .lit (u8l (gt d.files i).2.b), i64 (gt d.files i).2.last]]), some (.cells 74 2 (D.map eF)), none, none, none, none, none, none, none, none, none, none,
      some (.cells 74 0 [.agg 74 [.str t, .lit (u8l (gt d.files i).2.b), i64 (gt d.files i).2.last]])] ∧ ∀ i : Nat, i < k → bytesBefore (gt D i).1 t.data.toList = true) ?_ ⟨by simp, by first | rfl | simp, fun i hi => by omega⟩
     rintro k fr σ hk ⟨rfl, rfl, hB⟩ ih
     clear q1 q2 q3 q4 q5 q6 q7 q8 q9 q11 q12
     refine s_round hc9 ?_
     clear hc9
     have hE : (k < D.length ∧ bytesBefore (gt D k).1 t.data.toList = true) ∨ (k < D.length ∧ bytesBefore (gt D k).1 t.data.toList = false) ∨ k = D.length := by
      rcases Nat.lt_or_ge k D.length with h1 | h1
      ·cases hb : bytesBefore (gt D k).1 t.data.toList with
       | true => exact .inl ⟨h1, rfl⟩
       | false => exact .inr (.inl ⟨h1, rfl⟩)
      ·exact .inr (.inr (by omega))
     have hlb := less_eq
     have hbt := bytes_toList
     rcases hE with ⟨hlt, hbk⟩ | hE
     ·have F9 := And.intro @hlb <| And.intro @hbt <| @hbk
      repeat' (first | refine gf ?_ | refine s_seq fun y9 hy9 => ?_ | refine qT _ ?_ ?_ | refine qG _ ?_ ?_ | refine qN ?_ ?_ | (refine QB.mk fun hb9 => ?_; (try simp only [hb9]); (try simp at hb9); first | (exfalso; omega) | subst hb9 | skip) | refine sD tOK tmix [([],0),([],1),([1],2),([1,2],3),([1,2,3],4),([1,2,3,4],5),([0,1,2,3,4,5],6),([0,1,2,3,4,5,6],7),([0,1,2,3,4,5,6,7],8),([0,1,2,3,4,5,6,7,8],9),([0,1,2,3,4,5,6,7,8,9],10),([0,1,2,3,4,5,6,7,8,9,10],11),([0,1,2,3,4,5,6,7],12),([0,1,2,3,4,5,6,7,8,9,10,11,12],13),([0,1,2,3,4,5,6,7,8,9,10,11,12,13],14),([0,1,2,3,4,5,6,7,8,9,10,11,12,13,14],15),([0,1,2,3,4,5,6,7],16),([0,1,2,3,4,5,6,7,16],17),([0,1,2,3,4,5,6,7,8,9,10,11,12,13,14,15,16,17],18),([0,1,2,3,4,5,6,7,8,9,10,11,12,13,14,15,16,17,18],19)] 18 ?_ | refine sD tOK tmix [([],5),([],0),([],6),([2],7),([2,3],8),([2,3,4],9),([],10),([2,3,4,5,6],11),([1,2,3,4,5,6,7],1),([],12),([9],2),([1,2,3,4,5,6,7,8,9,10],3),([],13),([12],14),([12,13],15),([12,13,14],16),([],17),([12,13,14,15,16],18),([1,2,3,4,5,6,7,8,9,10,11,12,13,14,15,16,17],4),([0,1,2,3,4,5,6,7,8,9,10,11,12,13,14,15,16,17,18],19),([0,1,2,3,4,5,6,7,8,9,10,11,12,13,14,15,16,17,18,19],20),([0,1,2,3,4,5,6,7,8,9,10,11,12,13,14,15,16,17,18,19,20],21)] 19 ?_ | refine qD _ ?_ ?_ | refine cE Tryz.func68 tOK fun R9 hR9 => ?_)
      refine w_back 15 [0, 3, 4] (by conv => lhs; simp) (by conv => lhs; simp) (by first | rfl | simp) (by first | rfl | simp) ?_
      refine ih hlt _ _ ⟨by simp, rfl, fun i hi => ?_⟩
      rcases Nat.lt_or_ge i k with h1 | h1
      ·exact hB i h1
      ·rw [show i = k by omega]; exact hbk
     ·have q6 : ((D.length : Int) - (k : Int)).toNat = D.length - k := by omega
      have q7 : k + (D.length - k) = D.length := by omega
      have q8 : ((D.map eF).drop k).take (D.length - k) = (D.map eF).drop k := List.take_of_length_le (by simp)
      have q9 : ((D.map eF).take k).take k = (D.map eF).take k := List.take_of_length_le (by simp; omega)
      have q5 : min k D.length = k := by omega
      have q10 : ∀ x : PV, ((D.map eF).take k ++ [x]).take (k + 1) = (D.map eF).take k ++ [x] := fun x => List.take_of_length_le (by simp; omega)
      have q1 : k ≤ D.length := hk
      have q2 : (k : Int) ≤ D.length := by omega
      have hins := dins_at (n := t.data.toList) (f := (gt d.files i).2) hk hB (fun h => by rcases hE with h1 | h1; exact h1.2; omega) (pos_none_ne hp2)
      have hdp : dput t.data.toList (gt d.files i).2 D = D.take k ++ (t.data.toList, (gt d.files i).2) :: D.drop k := by
       unfold dput; rw [ddel_off (pos_none_ne hp2)]; exact hins
      rw [hdp] at h
      have hts := tx_self t
      rcases hE with ⟨hlt, hbk⟩ | hE
      ·have F9 := And.intro @hlb <| And.intro @hbt <| And.intro @hbk <| And.intro @q1 <| And.intro @q2 <| And.intro @q5 <| And.intro @q6 <| And.intro @q7 <| And.intro @q8 <| And.intro @q9 <| @q10
       repeat' (first | refine gf ?_ | refine s_seq fun y9 hy9 => ?_ | refine qT _ ?_ ?_ | refine qG _ ?_ ?_ | refine qN ?_ ?_ | (refine QB.mk fun hb9 => ?_; (try simp only [hb9]); (try simp at hb9); first | (exfalso; omega) | subst hb9 | skip) | refine sD tOK tmix [([],0),([],1),([1],2),([1,2],3),([1,2,3],4),([1,2,3,4],5),([0,1,2,3,4,5],6),([0,1,2,3,4,5,6],7),([0,1,2,3,4,5,6,7],8),([0,1,2,3,4,5,6,7,8],9),([0,1,2,3,4,5,6,7,8,9],10),([0,1,2,3,4,5,6,7,8,9,10],11),([0,1,2,3,4,5,6,7],12),([0,1,2,3,4,5,6,7,8,9,10,11,12],13),([0,1,2,3,4,5,6,7,8,9,10,11,12,13],14),([0,1,2,3,4,5,6,7,8,9,10,11,12,13,14],15),([0,1,2,3,4,5,6,7],16),([0,1,2,3,4,5,6,7,16],17),([0,1,2,3,4,5,6,7,8,9,10,11,12,13,14,15,16,17],18),([0,1,2,3,4,5,6,7,8,9,10,11,12,13,14,15,16,17,18],19)] 18 ?_ | refine sD tOK tmix [([],5),([],0),([],6),([2],7),([2,3],8),([2,3,4],9),([],10),([2,3,4,5,6],11),([1,2,3,4,5,6,7],1),([],12),([9],2),([1,2,3,4,5,6,7,8,9,10],3),([],13),([12],14),([12,13],15),([12,13,14],16),([],17),([12,13,14,15,16],18),([1,2,3,4,5,6,7,8,9,10,11,12,13,14,15,16,17],4),([0,1,2,3,4,5,6,7,8,9,10,11,12,13,14,15,16,17,18],19),([0,1,2,3,4,5,6,7,8,9,10,11,12,13,14,15,16,17,18,19],20),([0,1,2,3,4,5,6,7,8,9,10,11,12,13,14,15,16,17,18,19,20],21)] 19 ?_ | refine qD _ ?_ ?_ | refine cE Tryz.func68 tOK fun R9 hR9 => ?_)
       refine h _ rfl _ (.row 35 3 (by decide) ?_ ?_)
       ·simp [burn]; omega
       ·simp [burn, hts]
      ·have F9 := And.intro @hlb <| And.intro @hbt <| And.intro @q1 <| And.intro @q2 <| And.intro @q5 <| And.intro @q6 <| And.intro @q7 <| And.intro @q8 <| And.intro @q9 <| @q10
       repeat' (first | refine gf ?_ | refine s_seq fun y9 hy9 => ?_ | refine qT _ ?_ ?_ | refine qG _ ?_ ?_ | refine qN ?_ ?_ | (refine QB.mk fun hb9 => ?_; (try simp only [hb9]); (try simp at hb9); first | (exfalso; omega) | subst hb9 | skip) | refine sD tOK tmix [([],0),([],1),([1],2),([1,2],3),([1,2,3],4),([1,2,3,4],5),([0,1,2,3,4,5],6),([0,1,2,3,4,5,6],7),([0,1,2,3,4,5,6,7],8),([0,1,2,3,4,5,6,7,8],9),([0,1,2,3,4,5,6,7,8,9],10),([0,1,2,3,4,5,6,7,8,9,10],11),([0,1,2,3,4,5,6,7],12),([0,1,2,3,4,5,6,7,8,9,10,11,12],13),([0,1,2,3,4,5,6,7,8,9,10,11,12,13],14),([0,1,2,3,4,5,6,7,8,9,10,11,12,13,14],15),([0,1,2,3,4,5,6,7],16),([0,1,2,3,4,5,6,7,16],17),([0,1,2,3,4,5,6,7,8,9,10,11,12,13,14,15,16,17],18),([0,1,2,3,4,5,6,7,8,9,10,11,12,13,14,15,16,17,18],19)] 18 ?_ | refine sD tOK tmix [([],5),([],0),([],6),([2],7),([2,3],8),([2,3,4],9),([],10),([2,3,4,5,6],11),([1,2,3,4,5,6,7],1),([],12),([9],2),([1,2,3,4,5,6,7,8,9,10],3),([],13),([12],14),([12,13],15),([12,13,14],16),([],17),([12,13,14,15,16],18),([1,2,3,4,5,6,7,8,9,10,11,12,13,14,15,16,17],4),([0,1,2,3,4,5,6,7,8,9,10,11,12,13,14,15,16,17,18],19),([0,1,2,3,4,5,6,7,8,9,10,11,12,13,14,15,16,17,18,19],20),([0,1,2,3,4,5,6,7,8,9,10,11,12,13,14,15,16,17,18,19,20],21)] 19 ?_ | refine qD _ ?_ ?_ | refine cE Tryz.func68 tOK fun R9 hR9 => ?_)
       refine h _ rfl _ (.row 35 3 (by decide) ?_ ?_)
       ·simp [burn]; omega
       ·simp [burn, hts]
    | some k2 =>
     obtain ⟨m1, m2, m3⟩ := pos_some hp2
     have hSD : srt D := by rw [hd]; exact List.pairwise_append.2 ⟨hS.take, hS.drop, fun a ha b hb => by
      obtain ⟨x, hx, rfl⟩ := List.getElem_of_mem ha
      obtain ⟨y, hy, rfl⟩ := List.getElem_of_mem hb
      rw [List.getElem_take, List.getElem_drop]
      rw [List.length_take] at hx
      exact List.pairwise_iff_getElem.1 hS _ _ _ _ (by omega)⟩
     have ca2 : ∀ {R : Re → Store → Prop} {σ : Store} {l g : Nat}, Store.at σ 0 = some (rSt { burn d with files := D } (.ref l g 0 D.length)) → Store.at σ l = some (.cells 74 g (D.map eF)) → (0 != l) = true → R (.ret (i64 k2)) σ → C tE 51 [.ptr 0 0 0 [], .str t] σ R := fun st ls ne h => R_at_b (d := { burn d with files := D }) st ls ne (by show D.length < _; omega) (by show _; rw [show posI t.data.toList D = k2 from posI_some hp2]; exact h)
     have he := ddel_at hSD m1 m2
     obtain ⟨E, hE0⟩ : ∃ E, ddel t.data.toList D = E := ⟨_, rfl⟩
     rw [hE0] at he
     have r1 : k2 ≤ D.length := by omega
     have r2 : (k2 : Int) + 1 ≤ D.length := by omega
     have r3 : k2 + 1 ≤ D.length := by omega
     have r4 : ((k2 : Int) + 1).toNat = k2 + 1 := by omega
     have r5 : min k2 D.length = k2 := by omega
     have r6 : ((D.length : Int) - ((k2 : Int) + 1)).toNat = D.length - (k2 + 1) := by omega
     have r7 : k2 + 1 + (D.length - (k2 + 1)) = D.length := by omega
     have r8 : ((D.map eF).drop (k2 + 1)).take (D.length - (k2 + 1)) = (D.map eF).drop (k2 + 1) := List.take_of_length_le (by simp)
     have r9 : ((D.map eF).take k2).take k2 = (D.map eF).take k2 := List.take_of_length_le (by simp; omega)
     have r11 : k2 + (D.length - (k2 + 1)) = E.length := by rw [he]; simp; omega
     have r12 : (D.map eF).take k2 ++ (D.map eF).drop (k2 + 1) = E.map eF := by rw [he]; simp
     have hEl : E.length ≤ 64 := by omega
     have F9 := And.intro @bf <| And.intro @q1 <| And.intro @q2 <| And.intro @q3 <| And.intro @q4 <| And.intro @q5 <| And.intro @q6 <| And.intro @q7 <| And.intro @q8 <| And.intro @q9 <| And.intro @q11 <| And.intro @q12 <| And.intro @r1 <| And.intro @r2 <| And.intro @r3 <| And.intro @r4 <| And.intro @r5 <| And.intro @r6 <| And.intro @r7 <| And.intro @r8 <| And.intro @r9 <| And.intro @r11 <| @r12
     repeat' (first | refine gf ?_ | refine s_seq fun y9 hy9 => ?_ | refine qT _ ?_ ?_ | refine qG _ ?_ ?_ | refine qN ?_ ?_ | (refine QB.mk fun hb9 => ?_; (try simp only [hb9]); (try simp at hb9); first | (exfalso; omega) | subst hb9 | skip) | refine sD tOK tmix [([],0),([],3),([],4),([1,2],5),([0,1,2,3],1),([],6),([],7),([6],8),([5,6,7],9),([0,1,2,3,4,5,6,7,8],2),([0,1,2,3,4,5,6,7,8,9],10)] 9 ?_ | refine sD tOK tmix [([],0),([],1),([1],2),([1,2],3),([1,2,3],4),([1,2,3,4],5),([0,1,2,3,4,5],6),([0,1,2,3,4,5,6],7),([0,1,2,3,4,5,6,7],8),([0,1,2,3,4,5,6,7,8],9),([0,1,2,3,4,5,6,7,8,9],10),([0,1,2,3,4,5,6,7,8,9,10],11),([0,1,2,3,4,5,6,7],12),([0,1,2,3,4,5,6,7,8,9,10,11,12],13),([0,1,2,3,4,5,6,7,8,9,10,11,12,13],14),([0,1,2,3,4,5,6,7,8,9,10,11,12,13,14],15),([0,1,2,3,4,5,6,7],16),([0,1,2,3,4,5,6,7,16],17),([0,1,2,3,4,5,6,7,8,9,10,11,12,13,14,15,16,17],18),([0,1,2,3,4,5,6,7,8,9,10,11,12,13,14,15,16,17,18],19)] 18 ?_ | refine sD tOK tmix [([],5),([],0),([],6),([2],7),([2,3],8),([2,3,4],9),([],10),([2,3,4,5,6],11),([1,2,3,4,5,6,7],1),([],12),([9],2),([1,2,3,4,5,6,7,8,9,10],3),([],13),([12],14),([12,13],15),([12,13,14],16),([],17),([12,13,14,15,16],18),([1,2,3,4,5,6,7,8,9,10,11,12,13,14,15,16,17],4),([0,1,2,3,4,5,6,7,8,9,10,11,12,13,14,15,16,17,18],19),([0,1,2,3,4,5,6,7,8,9,10,11,12,13,14,15,16,17,18,19],20),([0,1,2,3,4,5,6,7,8,9,10,11,12,13,14,15,16,17,18,19,20],21)] 19 ?_ | refine qD _ ?_ ?_ | refine cE Tryz.func67 tOK fun R9 hR9 => ?_ | refine cE Tryz.func68 tOK fun R9 hR9 => ?_ | (refine nZ ?_; first | refine cc ?_ | refine cn ?_ | refine ca ?_ | refine (ca2 rfl rfl rfl) ?_) | (apply d_call []; exact rfl; (solve | (conv => lhs; try simp [bf,q1,q2,q3,q4,q5,q6,q7,q8,q9,q11,q12,r1,r2,r3,r4,r5,r6,r7,r8,r9,r11,r12])); (solve | exact rfl | simp); (solve | (conv => lhs; try simp [bf,q1,q2,q3,q4,q5,q6,q7,q8,q9,q11,q12,r1,r2,r3,r4,r5,r6,r7,r8,r9,r11,r12])); intro τ hτ; refine nZ ?_; first | exact cc ⟨rfl, rfl⟩ | exact cn ⟨rfl, rfl⟩ | exact ca ⟨rfl, rfl⟩ | exact (ca2 rfl rfl rfl) ⟨rfl, rfl⟩))
     refine s_loop fun c9 hc9 => ?_
     refine w_trim 26 [0, 3, 4] (by conv => lhs; simp) (by conv => lhs; simp) (by first | rfl | simp) (by first | rfl | simp) ?_
     refine s_loopn E.length (fun k fr σ => fr = [(0, .ptr 0 0 0 []), (3, .ptr 25 0 0 []), (4, i64 k)] ∧ σ = [some (.cells 57 0 [.agg 57 [i64 (burn d).room, .ref 14 2 0 E.length, i64 (burn d).fuse, i64 (burn d).fail]]), some (.cells 74 g (d.files.map eF)),
      some (.cells 74 0 [.agg 74 [.str t, .lit (u8l (gt d.files i).2.b), i64 (gt d.files i).2.last]]), some (.cells 74 2 (D.map eF)), none, none, none, none, none, none, none, none, none, none,
      some (.cells 74 2 (E.map eF)), none, none, none, none, none, none, none, none, none, none,
      some (.cells 74 0 [.agg 74 [.str t, .lit (u8l (gt d.files i).2.b), i64 (gt d.files i).2.last]])] ∧ ∀ i : Nat, i < k → bytesBefore (gt E i).1 t.data.toList = true) ?_ ⟨by simp, by first | rfl | simp, fun i hi => by omega⟩
     rintro k fr σ hk ⟨rfl, rfl, hB⟩ ih
     clear q1 q2 q3 q4 q5 q6 q7 q8 q9 q11 q12 r1 r2 r3 r4 r5 r6 r7 r8 r9 r11 r12
     refine s_round hc9 ?_
     clear hc9
     have hE : (k < E.length ∧ bytesBefore (gt E k).1 t.data.toList = true) ∨ (k < E.length ∧ bytesBefore (gt E k).1 t.data.toList = false) ∨ k = E.length := by
      rcases Nat.lt_or_ge k E.length with h1 | h1
      ·cases hb : bytesBefore (gt E k).1 t.data.toList with
       | true => exact .inl ⟨h1, rfl⟩
       | false => exact .inr (.inl ⟨h1, rfl⟩)
      ·exact .inr (.inr (by omega))
     have hlb := less_eq
     have hbt := bytes_toList
     rcases hE with ⟨hlt, hbk⟩ | hE
     ·have F9 := And.intro @hlb <| And.intro @hbt <| @hbk
      repeat' (first | refine gf ?_ | refine s_seq fun y9 hy9 => ?_ | refine qT _ ?_ ?_ | refine qG _ ?_ ?_ | refine qN ?_ ?_ | (refine QB.mk fun hb9 => ?_; (try simp only [hb9]); (try simp at hb9); first | (exfalso; omega) | subst hb9 | skip) | refine sD tOK tmix [([],0),([],1),([1],2),([1,2],3),([1,2,3],4),([1,2,3,4],5),([0,1,2,3,4,5],6),([0,1,2,3,4,5,6],7),([0,1,2,3,4,5,6,7],8),([0,1,2,3,4,5,6,7,8],9),([0,1,2,3,4,5,6,7,8,9],10),([0,1,2,3,4,5,6,7,8,9,10],11),([0,1,2,3,4,5,6,7],12),([0,1,2,3,4,5,6,7,8,9,10,11,12],13),([0,1,2,3,4,5,6,7,8,9,10,11,12,13],14),([0,1,2,3,4,5,6,7,8,9,10,11,12,13,14],15),([0,1,2,3,4,5,6,7],16),([0,1,2,3,4,5,6,7,16],17),([0,1,2,3,4,5,6,7,8,9,10,11,12,13,14,15,16,17],18),([0,1,2,3,4,5,6,7,8,9,10,11,12,13,14,15,16,17,18],19)] 18 ?_ | refine sD tOK tmix [([],5),([],0),([],6),([2],7),([2,3],8),([2,3,4],9),([],10),([2,3,4,5,6],11),([1,2,3,4,5,6,7],1),([],12),([9],2),([1,2,3,4,5,6,7,8,9,10],3),([],13),([12],14),([12,13],15),([12,13,14],16),([],17),([12,13,14,15,16],18),([1,2,3,4,5,6,7,8,9,10,11,12,13,14,15,16,17],4),([0,1,2,3,4,5,6,7,8,9,10,11,12,13,14,15,16,17,18],19),([0,1,2,3,4,5,6,7,8,9,10,11,12,13,14,15,16,17,18,19],20),([0,1,2,3,4,5,6,7,8,9,10,11,12,13,14,15,16,17,18,19,20],21)] 19 ?_ | refine qD _ ?_ ?_ | refine cE Tryz.func68 tOK fun R9 hR9 => ?_)
      refine w_back 26 [0, 3, 4] (by conv => lhs; simp) (by conv => lhs; simp) (by first | rfl | simp) (by first | rfl | simp) ?_
      refine ih hlt _ _ ⟨by simp, rfl, fun i hi => ?_⟩
      rcases Nat.lt_or_ge i k with h1 | h1
      ·exact hB i h1
      ·rw [show i = k by omega]; exact hbk
     ·have q6 : ((E.length : Int) - (k : Int)).toNat = E.length - k := by omega
      have q7 : k + (E.length - k) = E.length := by omega
      have q8 : ((E.map eF).drop k).take (E.length - k) = (E.map eF).drop k := List.take_of_length_le (by simp)
      have q9 : ((E.map eF).take k).take k = (E.map eF).take k := List.take_of_length_le (by simp; omega)
      have q5 : min k E.length = k := by omega
      have q10 : ∀ x : PV, ((E.map eF).take k ++ [x]).take (k + 1) = (E.map eF).take k ++ [x] := fun x => List.take_of_length_le (by simp; omega)
      have q1 : k ≤ E.length := hk
      have q2 : (k : Int) ≤ E.length := by omega
      have hins := dins_at (n := t.data.toList) (f := (gt d.files i).2) hk hB (fun h => by rcases hE with h1 | h1; exact h1.2; omega) (fun p hp => by
       rw [← hE0] at hp
       have := (List.mem_filter.1 hp).2
       simpa using this)
      have hdp : dput t.data.toList (gt d.files i).2 D = E.take k ++ (t.data.toList, (gt d.files i).2) :: E.drop k := by
       unfold dput; rw [hE0]; exact hins
      rw [hdp] at h
      have hts := tx_self t
      rcases hE with ⟨hlt, hbk⟩ | hE
      ·have F9 := And.intro @hlb <| And.intro @hbt <| And.intro @hbk <| And.intro @q1 <| And.intro @q2 <| And.intro @q5 <| And.intro @q6 <| And.intro @q7 <| And.intro @q8 <| And.intro @q9 <| @q10
       repeat' (first | refine gf ?_ | refine s_seq fun y9 hy9 => ?_ | refine qT _ ?_ ?_ | refine qG _ ?_ ?_ | refine qN ?_ ?_ | (refine QB.mk fun hb9 => ?_; (try simp only [hb9]); (try simp at hb9); first | (exfalso; omega) | subst hb9 | skip) | refine sD tOK tmix [([],0),([],1),([1],2),([1,2],3),([1,2,3],4),([1,2,3,4],5),([0,1,2,3,4,5],6),([0,1,2,3,4,5,6],7),([0,1,2,3,4,5,6,7],8),([0,1,2,3,4,5,6,7,8],9),([0,1,2,3,4,5,6,7,8,9],10),([0,1,2,3,4,5,6,7,8,9,10],11),([0,1,2,3,4,5,6,7],12),([0,1,2,3,4,5,6,7,8,9,10,11,12],13),([0,1,2,3,4,5,6,7,8,9,10,11,12,13],14),([0,1,2,3,4,5,6,7,8,9,10,11,12,13,14],15),([0,1,2,3,4,5,6,7],16),([0,1,2,3,4,5,6,7,16],17),([0,1,2,3,4,5,6,7,8,9,10,11,12,13,14,15,16,17],18),([0,1,2,3,4,5,6,7,8,9,10,11,12,13,14,15,16,17,18],19)] 18 ?_ | refine sD tOK tmix [([],5),([],0),([],6),([2],7),([2,3],8),([2,3,4],9),([],10),([2,3,4,5,6],11),([1,2,3,4,5,6,7],1),([],12),([9],2),([1,2,3,4,5,6,7,8,9,10],3),([],13),([12],14),([12,13],15),([12,13,14],16),([],17),([12,13,14,15,16],18),([1,2,3,4,5,6,7,8,9,10,11,12,13,14,15,16,17],4),([0,1,2,3,4,5,6,7,8,9,10,11,12,13,14,15,16,17,18],19),([0,1,2,3,4,5,6,7,8,9,10,11,12,13,14,15,16,17,18,19],20),([0,1,2,3,4,5,6,7,8,9,10,11,12,13,14,15,16,17,18,19,20],21)] 19 ?_ | refine qD _ ?_ ?_ | refine cE Tryz.func68 tOK fun R9 hR9 => ?_)
       refine h _ rfl _ (.row 46 3 (by decide) ?_ ?_)
       ·simp [burn]; omega
       ·simp [burn, hts]
      ·have F9 := And.intro @hlb <| And.intro @hbt <| And.intro @q1 <| And.intro @q2 <| And.intro @q5 <| And.intro @q6 <| And.intro @q7 <| And.intro @q8 <| And.intro @q9 <| @q10
       repeat' (first | refine gf ?_ | refine s_seq fun y9 hy9 => ?_ | refine qT _ ?_ ?_ | refine qG _ ?_ ?_ | refine qN ?_ ?_ | (refine QB.mk fun hb9 => ?_; (try simp only [hb9]); (try simp at hb9); first | (exfalso; omega) | subst hb9 | skip) | refine sD tOK tmix [([],0),([],1),([1],2),([1,2],3),([1,2,3],4),([1,2,3,4],5),([0,1,2,3,4,5],6),([0,1,2,3,4,5,6],7),([0,1,2,3,4,5,6,7],8),([0,1,2,3,4,5,6,7,8],9),([0,1,2,3,4,5,6,7,8,9],10),([0,1,2,3,4,5,6,7,8,9,10],11),([0,1,2,3,4,5,6,7],12),([0,1,2,3,4,5,6,7,8,9,10,11,12],13),([0,1,2,3,4,5,6,7,8,9,10,11,12,13],14),([0,1,2,3,4,5,6,7,8,9,10,11,12,13,14],15),([0,1,2,3,4,5,6,7],16),([0,1,2,3,4,5,6,7,16],17),([0,1,2,3,4,5,6,7,8,9,10,11,12,13,14,15,16,17],18),([0,1,2,3,4,5,6,7,8,9,10,11,12,13,14,15,16,17,18],19)] 18 ?_ | refine sD tOK tmix [([],5),([],0),([],6),([2],7),([2,3],8),([2,3,4],9),([],10),([2,3,4,5,6],11),([1,2,3,4,5,6,7],1),([],12),([9],2),([1,2,3,4,5,6,7,8,9,10],3),([],13),([12],14),([12,13],15),([12,13,14],16),([],17),([12,13,14,15,16],18),([1,2,3,4,5,6,7,8,9,10,11,12,13,14,15,16,17],4),([0,1,2,3,4,5,6,7,8,9,10,11,12,13,14,15,16,17,18],19),([0,1,2,3,4,5,6,7,8,9,10,11,12,13,14,15,16,17,18,19],20),([0,1,2,3,4,5,6,7,8,9,10,11,12,13,14,15,16,17,18,19,20],21)] 19 ?_ | refine qD _ ?_ ?_ | refine cE Tryz.func68 tOK fun R9 hR9 => ?_)
       refine h _ rfl _ (.row 46 3 (by decide) ?_ ?_)
       ·simp [burn]; omega
       ·simp [burn, hts]
end
section
variable {R : Re → Store → Prop} {σ : Store} {d : Dk} {n : Int} {g : Nat}
theorem R_rename_0 {s t : ByteArray} (hI : Inv d) (h0' : d.files = []) (cn : ∀ {R : Re → Store → Prop} {σ : Store}, R (.ret (.bool (named t))) σ → C tE 66 [.str t] σ R)
  (h : ∀ d', (rename d s t).2 = d' → ∀ σ', RdAt σ' 0 d' → R (.ret (i64 (rename d s t).1)) σ') : C tE 32 [.ptr 0 0 0 [], .str s, .str t] (rdA d) R := by
 have f0 := hI.fuse0
 have f1 := hI.fuse1
 have ca : ∀ {R : Re → Store → Prop}, R (.ret (i64 (-1))) (rdA (burn d)) → C tE 51 [.ptr 0 0 0 [], .str s] (rdA (burn d)) R := fun h => R_at_0 (L := d) h
 unfold rename at h
 rw [show dget s.data.toList d.files = none by rw [h0']; rfl] at h
 by_cases h0 : d.fuse = 0
 ·have cc : ∀ {R : Re → Store → Prop}, R (.ret (.bool false)) (rdA d) → C tE 65 [.ptr 0 0 0 []] (rdA d) R := fun h => R_call f0 f1 (by rw [if_pos h0]; simpa [h0] using h)
  rw [if_pos (by simpa using h0)] at h
  refine s_body' Tryz.func32 tOK rfl (by conv => lhs; simp) (by conv => lhs; simp) (by conv => lhs; simp [Fr.args]) rfl (by conv => lhs; try simp) fun R9 hR9 => ?_
  repeat' (first | refine go ?_ | refine s_seq fun y9 hy9 => ?_ | refine qT _ ?_ ?_ | refine qG _ ?_ ?_ | refine qN ?_ ?_ | (refine QB.mk fun hb9 => ?_; (try simp only [hb9]); (try simp at hb9); first | (exfalso; omega) | subst hb9 | skip) | (refine nZ ?_; refine cc ?_))
  exact h _ rfl _ (.nil h0' rfl)
 ·have hb0 : (d.fuse == 0) = false := by rw [beq_eq_false_iff_ne]; exact h0
  have cc : ∀ {R : Re → Store → Prop}, R (.ret (.bool true)) (rdA (burn d)) → C tE 65 [.ptr 0 0 0 []] (rdA d) R := fun h => R_call f0 f1 (by rw [if_neg h0, hb0]; exact h)
  rw [if_neg (by rw [hb0]; simp)] at h
  refine s_body' Tryz.func32 tOK rfl (by conv => lhs; simp) (by conv => lhs; simp) (by conv => lhs; simp [Fr.args]) rfl (by conv => lhs; try simp) fun R9 hR9 => ?_
  cases hnm : named t with
  | false =>
   rw [hnm] at cn
   rw [if_pos hnm] at h
   repeat' (first | refine go ?_ | refine s_seq fun y9 hy9 => ?_ | refine qT _ ?_ ?_ | refine qG _ ?_ ?_ | refine qN ?_ ?_ | (refine QB.mk fun hb9 => ?_; (try simp only [hb9]); (try simp at hb9); first | (exfalso; omega) | subst hb9 | skip) | (refine nZ ?_; first | refine cc ?_ | refine cn ?_))
   exact h _ rfl _ (.nil h0' rfl)
  | true =>
   rw [hnm] at cn
   rw [if_neg (by rw [hnm]; simp)] at h
   repeat' (first | refine go ?_ | refine s_seq fun y9 hy9 => ?_ | refine qT _ ?_ ?_ | refine qG _ ?_ ?_ | refine qN ?_ ?_ | (refine QB.mk fun hb9 => ?_; (try simp only [hb9]); (try simp at hb9); first | (exfalso; omega) | subst hb9 | skip) | (refine nZ ?_; first | refine cc ?_ | refine cn ?_ | refine ca ?_))
   exact h _ rfl _ (.nil h0' rfl)
theorem R_new_none (h0 : n < 0 ∨ 1048576 < n) (h : R (.ret .nilp) σ) : C tE 6 [i64 n] σ R := by
 refine C_pure tOK (by simp) ?_
 rcases h0 with h0 | h0
 ·refine s_body' Tryz.func6 tOK rfl (by conv => lhs; simp) (by conv => lhs; simp) (by conv => lhs; simp [Fr.args]) rfl (by conv => lhs; try simp) fun R9 hR9 => ?_
  repeat' (first | refine go ?_ | refine s_seq fun y9 hy9 => ?_ | refine qT _ ?_ ?_ | refine qG _ ?_ ?_ | refine qN ?_ ?_ | (refine QB.mk fun hb9 => ?_; (try simp only [hb9]); (try simp at hb9); first | (exfalso; omega) | subst hb9 | skip))
  exact h
 ·rcases Int.lt_or_le n 0 with h1 | h1
  ·omega
  ·refine s_body' Tryz.func6 tOK rfl (by conv => lhs; simp) (by conv => lhs; simp) (by conv => lhs; simp [Fr.args]) rfl (by conv => lhs; try simp) fun R9 hR9 => ?_
   repeat' (first | refine go ?_ | refine s_seq fun y9 hy9 => ?_ | refine qT _ ?_ ?_ | refine qG _ ?_ ?_ | refine qN ?_ ?_ | (refine QB.mk fun hb9 => ?_; (try simp only [hb9]); (try simp at hb9); first | (exfalso; omega) | subst hb9 | skip))
   exact h
end
def okB (c : UInt8) : Bool := decide (97 ≤ c.toNat) && decide (c.toNat ≤ 122) || decide (48 ≤ c.toNat) && decide (c.toNat ≤ 57) || decide (c.toNat = 46) || decide (c.toNat = 45)
theorem okB_odd (c : UInt8) : oddR c.toNat = !okB c := rfl
theorem odd_high {n : Nat} (h : 128 ≤ n) : oddR n = true := by
 unfold oddR
 simp only [Bool.not_eq_true', Bool.or_eq_false_iff, Bool.and_eq_false_iff, decide_eq_false_iff_not]
 omega
theorem okB_high {c : UInt8} (h : 128 ≤ c.toNat) : okB c = false := by
 have := odd_high h; rw [okB_odd] at this; simpa using this
theorem idx_all (s : ByteArray) : ∀ (f pos : Nat), s.size ≤ pos + f → decide (0 ≤ Lib.idxFuncFrom oddR true s f pos) = !((s.data.toList.drop pos).all okB)
 | 0, pos, h => by
  rw [List.drop_of_length_le (by rw [Array.length_toList]; exact h)]
  rfl
 | f + 1, pos, h => by
  unfold Lib.idxFuncFrom
  by_cases hp : pos < s.size
  ·rw [if_pos hp]
   have hl : pos < s.data.toList.length := by rw [Array.length_toList]; exact hp
   have hg : s.data.toList[pos] = s[pos] := by rw [Array.getElem_toList]; rfl
   rw [List.drop_eq_getElem_cons hl, hg, List.all_cons]
   rcases Nat.lt_or_ge (s[pos]).toNat 128 with h1 | h1
   ·have hd := decode_ascii s pos hp h1
    rw [hd]
    simp only [okB_odd]
    by_cases ho : okB s[pos] = true
    ·simp only [ho, Bool.not_true, Bool.false_eq_true, if_false, Bool.true_and]
     exact idx_all s f (pos + 1) (by omega)
    ·simp [ho]
   ·have hd := decode_high s pos hp h1
    rw [if_pos (odd_high hd.1), okB_high h1]
    simp
  ·rw [if_neg hp, List.drop_of_length_le (by rw [Array.length_toList]; exact Nat.le_of_not_lt hp)]
   rfl
theorem named_eq (s : ByteArray) : named s = (s.data.toList.all okB && (decide (1 ≤ s.size) && decide (s.size ≤ 16))) := by
 unfold named Lib.idxFunc
 rw [idx_all s s.size 0 (by omega), List.drop_zero, Bool.not_not]
 have h1 : (!s.toList.isEmpty) = decide (1 ≤ s.size) := by
  rw [bytes_toList, Bool.eq_iff_iff, decide_eq_true_eq]
  have : s.data.toList.length = s.size := by rw [Array.length_toList]; rfl
  cases hs : s.data.toList with
  | nil =>
   rw [hs] at this
   simp only [List.length_nil] at this
   constructor
   ·intro h; cases h
   ·intro h; omega
  | cons a l =>
   rw [hs] at this
   simp only [List.length_cons] at this
   constructor
   ·intro h; omega
   ·intro h; rfl
 have h2 : decide ((s.size : Int) ≤ 16) = decide (s.size ≤ 16) := by
  rw [Bool.eq_iff_iff, decide_eq_true_eq, decide_eq_true_eq]; omega
 rw [h1, h2]
 cases s.data.toList.all okB <;> simp
theorem gt_mem' {α : Type} [Inhabited α] {l : List α} {k : Nat} (h : k < l.length) : gt l k ∈ l := by simp [gt, h]
section
variable {R : Re → Store → Prop} {σ : Store}
set_option maxHeartbeats 4000000 in
theorem R_name {s : ByteArray} (hs : s.size ≤ 9223372036854775807) (h : R (.ret (.bool (named s))) σ) : C tE 66 [.str s] σ R := by
 rw [named_eq] at h
 refine C_pure tOK (by simp) ?_
 refine s_body' Tryz.func66 tOK rfl (by conv => lhs; simp) (by conv => lhs; simp) (by conv => lhs; simp [Fr.args]) rfl (by conv => lhs; try simp) fun R9 hR9 => ?_
 repeat' (first | refine go ?_ | refine s_seq fun y9 hy9 => ?_ | refine qT _ ?_ ?_ | refine qG _ ?_ ?_ | refine qN ?_ ?_ | (refine QB.mk fun hb9 => ?_; (try simp only [hb9]); (try simp at hb9); first | (exfalso; omega) | subst hb9 | skip))
 refine s_loop fun c9 hc9 => ?_
 refine w_trim 0 [0, 3] (by conv => lhs; simp) (by conv => lhs; simp) (by first | rfl | simp) (by first | rfl | simp) ?_
 refine s_loopn (s.size) (fun j fr σ => fr = [(0, .str s), (3, i64 j)] ∧ σ = [] ∧ (∀ k : Nat, k < j → okB (gt s.data.toList k) = true)) ?_ ⟨by simp, by first | rfl | simp, by first | (intros; omega) | simp⟩
 rintro j fr σ hj ⟨rfl, rfl, hS⟩ ih
 have hsl : s.data.toList.length = s.size := by rw [Array.length_toList]; rfl
 refine s_round hc9 ?_
 clear hc9
 rcases Nat.lt_or_ge j s.size with hlt | hge
 ·obtain ⟨c, hc⟩ : ∃ c, gt s.data.toList j = c := ⟨_, rfl⟩
  have hsj : s[j]? = some c := by
   rw [← hc]
   have : s[j]? = s.data.toList[j]? := by
    simp [getElem?_def, hsl]
    split <;> rfl
   rw [this, gq (by omega)]
  have hc2 := c.toNat_lt
  have hmem : c ∈ s.data.toList := by rw [← hc]; exact gt_mem' (by omega)
  cases ho : okB c with
  | true =>
   have hd : (97 ≤ c.toNat ∧ c.toNat ≤ 122) ∨ (48 ≤ c.toNat ∧ c.toNat ≤ 57) ∨ c.toNat = 46 ∨ c.toNat = 45 := by
    simp only [okB, Bool.or_eq_true, Bool.and_eq_true, decide_eq_true_eq] at ho; omega
   have F9 := @hsj
   repeat' (first | refine gf ?_ | refine s_seq fun y9 hy9 => ?_ | refine qT _ ?_ ?_ | refine qG _ ?_ ?_ | refine qN ?_ ?_ | (refine QB.mk fun hb9 => ?_; (try simp only [hb9]); (try simp at hb9); first | (exfalso; omega) | subst hb9 | skip))
   all_goals
    refine w_back 0 [0, 3] (by conv => lhs; simp) (by conv => lhs; simp) (by first | rfl | simp) (by first | rfl | simp) ?_
    refine ih hlt _ _ ⟨by simp, rfl, fun k hk => ?_⟩
    rcases Nat.lt_or_ge k j with h1 | h1
    ·exact hS k h1
    ·rw [show k = j by omega, hc]; exact ho
  | false =>
   have hd : ¬ ((97 ≤ c.toNat ∧ c.toNat ≤ 122) ∨ (48 ≤ c.toNat ∧ c.toNat ≤ 57) ∨ c.toNat = 46 ∨ c.toNat = 45) := by
    intro hd
    have : okB c = true := by simp only [okB, Bool.or_eq_true, Bool.and_eq_true, decide_eq_true_eq]; omega
    rw [ho] at this; cases this
   have hall : s.data.toList.all okB = false := by
    rw [List.all_eq_false]; exact ⟨c, hmem, by rw [ho]; simp⟩
   rw [hall] at h
   have F9 := @hsj
   repeat' (first | refine gf ?_ | refine s_seq fun y9 hy9 => ?_ | refine qT _ ?_ ?_ | refine qG _ ?_ ?_ | refine qN ?_ ?_ | (refine QB.mk fun hb9 => ?_; (try simp only [hb9]); (try simp at hb9); first | (exfalso; omega) | subst hb9 | skip))
   all_goals exact h
 ·have hj : j = s.size := by omega
  subst hj
  have hall : s.data.toList.all okB = true := by
   rw [List.all_eq_true]
   intro x hx
   obtain ⟨k, hk, rfl⟩ := List.getElem_of_mem hx
   have hk2 := hS k (by omega)
   have : gt s.data.toList k = s.data.toList[k] := by unfold gt; rw [List.getD_eq_getElem?_getD, List.getElem?_eq_getElem hk]; rfl
   rw [← this]; exact hk2
  rw [hall] at h
  by_cases g1 : 1 ≤ s.size
  ·by_cases g2 : s.size ≤ 16
   ·simp only [g1, g2, decide_true, Bool.and_self] at h
    repeat' (first | refine go ?_ | refine s_seq fun y9 hy9 => ?_ | refine qT _ ?_ ?_ | refine qG _ ?_ ?_ | refine qN ?_ ?_ | (refine QB.mk fun hb9 => ?_; (try simp only [hb9]); (try simp at hb9); first | (exfalso; omega) | subst hb9 | skip))
    exact h
   ·simp only [g1, g2, decide_true, decide_false, Bool.true_and] at h
    repeat' (first | refine go ?_ | refine s_seq fun y9 hy9 => ?_ | refine qT _ ?_ ?_ | refine qG _ ?_ ?_ | refine qN ?_ ?_ | (refine QB.mk fun hb9 => ?_; (try simp only [hb9]); (try simp at hb9); first | (exfalso; omega) | subst hb9 | skip))
    exact h
  ·simp only [g1, decide_false, Bool.false_and, Bool.and_false] at h
   repeat' (first | refine go ?_ | refine s_seq fun y9 hy9 => ?_ | refine qT _ ?_ ?_ | refine qG _ ?_ ?_ | refine qN ?_ ?_ | (refine QB.mk fun hb9 => ?_; (try simp only [hb9]); (try simp at hb9); first | (exfalso; omega) | subst hb9 | skip))
   exact h
end
end Go.Proofs.YtdplbgfokoajjaaGreat
end
section
set_option linter.unusedVariables false
set_option linter.unusedSimpArgs false
set_option maxRecDepth 20000
namespace Go.Proofs.YtdplbgfokoajjaaGreat
open Go
attribute [-simp] List.map_set
theorem neu_at {ids : List Nat} {σ σ1 : Store} (hnd : ids.Nodup) (hid : ∀ b ∈ ids, b < σ.length) {i : Nat} (hi : i < σ1.length) : (neuS ids σ σ1)[kp ids σ.length i]? = (σ1[i]?).map (fun x => x.map (renBlk (kp ids σ.length))) := by
 unfold neuS
 rcases Nat.lt_or_ge i ids.length with hlt | hge
 ·rw [show kp ids σ.length i = nth ids i by rw [kp, if_pos hlt], List.getElem?_append_left (by rw [putAll_len]; exact hid _ (nth_mem hlt))]
  rw [putAll_at ids _ σ i hnd hid hlt (by simp [renStore]; omega)]
  simp only [renStore, List.getElem?_map, List.getElem?_take, if_pos hlt]
 ·rw [show kp ids σ.length i = σ.length + (i - ids.length) by rw [kp, if_neg (by omega)], List.getElem?_append_right (by rw [putAll_len]; omega), putAll_len]
  simp only [renStore, List.getElem?_map, List.getElem?_drop]
  rw [show ids.length + (σ.length + (i - ids.length) - σ.length) = i by omega]
theorem neu_other {ids : List Nat} {σ σ1 : Store} {b : Nat} (hb : b ∉ ids) (hlt : b < σ.length) : (neuS ids σ σ1)[b]? = σ[b]? := by
 unfold neuS
 rw [List.getElem?_append_left (by rw [putAll_len]; exact hlt)]
 exact putAll_other ids _ σ hb
theorem ren_rSt (r : Nat → Nat) (d : Dk) (l g n : Nat) : renBlk r (rSt d (.ref l g 0 n)) = rSt d (.ref (r l) g 0 n) := by
 simp [renBlk, renL, ren]
theorem ren_row (r : Nat → Nat) (g : Nat) (l : List (List UInt8 × Fl)) : renBlk r (.cells 74 g (l.map eF)) = .cells 74 g (l.map eF) := by
 simp only [renBlk, renL_eF]
theorem RdAt.neu {ids : List Nat} {σ σ1 : Store} {i : Nat} {d : Dk} (hnd : (i :: ids).Nodup) (hid : ∀ b ∈ i :: ids, b < σ.length) (h : RdAt σ1 0 d) : RdAt (neuS (i :: ids) σ σ1) i d := by
 have k0 : kp (i :: ids) σ.length 0 = i := by simp [kp, nth]
 have hat := fun j hj => neu_at (σ := σ) (σ1 := σ1) hnd hid (i := j) hj
 cases h with
 | nil h0 st =>
  have := hat 0 (getElem?_lt st)
  rw [k0, st] at this
  refine .nil h0 ?_
  rw [this]; simp only [Option.map_some, ren_rdA]
 | row l g ne st ls =>
  have e0 := hat 0 (getElem?_lt st)
  rw [k0, st] at e0
  have e1 := hat l (getElem?_lt ls)
  rw [ls] at e1
  refine .row (kp (i :: ids) σ.length l) g ?_ ?_ ?_
  ·intro e
   rw [kp] at e
   split at e
   ·rename_i hl
    have hn := idx_nth hnd hl
    rw [← e] at hn
    simp at hn
    exact ne hn
   ·have := hid i (by simp); omega
  ·rw [e0]; simp only [Option.map_some, ren_rSt]
  ·rw [e1]; simp only [Option.map_some, ren_row]
section
variable {R : Re → Store → Prop} {σ : Store} {d d2 : Dk} {i f : Nat} {args : List PV} {v : PV}
theorem R_put_at {args' : List PV} (h0 : RdAt σ i d) (hargs : allL (fun b => decide (b < 1)) args = true) (hargs2 : allL (fun b => decide (b < 2)) args = true) (ha : ∀ r : Nat → Nat, r 0 = i → renL r args = args') (hv : ∀ r, ren r v = v)
  (hB : ∀ (R : Re → Store → Prop) (g : Nat), (∀ d', d2 = d' → ∀ σ', RdAt σ' 0 d' → R (.ret v) σ') → C tE f args (rdB g d) R)
  (hA : d.files = [] → ∀ (R : Re → Store → Prop), (∀ d', d2 = d' → ∀ σ', RdAt σ' 0 d' → R (.ret v) σ') → C tE f args (rdA d) R)
  (h : ∀ σ', RdAt σ' i d2 → (∃ l, (i = l ∨ ∃ g, σ[l]? = some (some (.cells 74 g (d.files.map eF)))) ∧ ∀ b, b < σ.length → b ≠ i → b ≠ l → σ'[b]? = σ[b]?) → R (.ret v) σ') : C tE f args' σ R := by
 cases h0 with
 | nil h0' st =>
  have hall : allStore (fun b => decide (b < 1)) (rdA d) = true := by simp [allStore, allBlk, allL, allB]
  have hi := getElem?_lt st
  rw [← ha (nth [i]) rfl]
  refine C_neu (σ0 := rdA d) tOK [i] (by simp) rfl hargs hall (fun k hk => ?_) (hA h0' _ fun d' hd σ1 hR1 => ?_)
  ·have hk : k = 0 := by simp at hk; omega
   subst hk
   simp only [nth, renStore, List.map_cons, List.map_nil, Option.map_some, ren_rdA]
   simp [st]
  ·subst hd
   show R (.ret (ren _ v)) _
   rw [hv]
   exact h _ (hR1.neu (ids := []) (by simp) (by simpa using hi)) ⟨i, .inl rfl, fun b hb hbi _ => neu_other (by simpa using hbi) hb⟩
 | row l g ne st ls =>
  have hi := getElem?_lt st
  have hl := getElem?_lt ls
  rw [← ha (nth [i, l]) rfl]
  refine C_neu (σ0 := rdB g d) tOK [i, l] (by simp [ne]) rfl hargs2 (rdB_all g d) (fun k hk => ?_) (hB _ g fun d' hd σ1 hR1 => ?_)
  ·have hk : k = 0 ∨ k = 1 := by simp at hk; omega
   rcases hk with rfl | rfl
   ·simp [nth, renStore, renBlk, renL, ren, st]
   ·simp [nth, renStore, renBlk, renL_eF, ls]
  ·subst hd
   show R (.ret (ren _ v)) _
   rw [hv]
   exact h _ (hR1.neu (ids := [l]) (by simp [ne]) (by simp; exact ⟨hi, hl⟩)) ⟨l, .inr ⟨g, ls⟩, fun b hb hbi hbl => neu_other (by simp; exact ⟨hbi, hbl⟩) hb⟩
theorem R_sync_at {s : ByteArray} (h0 : RdAt σ i d) (hI : Inv d) (hS : srt d.files) (h : ∀ σ', RdAt σ' i (sync d s).2 → (∃ l, (i = l ∨ ∃ g, σ[l]? = some (some (.cells 74 g (d.files.map eF)))) ∧ ∀ b, b < σ.length → b ≠ i → b ≠ l → σ'[b]? = σ[b]?) → R (.ret (i64 (sync d s).1)) σ') : C tE 31 [.ptr i 0 0 [], .str s] σ R :=
 R_put_at (args := [.ptr 0 0 0 [], .str s]) h0 rfl rfl (fun r hr => by simp [renL, ren, hr]) (fun r => rfl) (fun R g h => R_sync hI hS h) (fun h0' R h => R_sync_0 hI h0' h) h
theorem R_delete_at {s : ByteArray} (h0 : RdAt σ i d) (hI : Inv d) (hS : srt d.files) (h : ∀ σ', RdAt σ' i (delete d s).2 → (∃ l, (i = l ∨ ∃ g, σ[l]? = some (some (.cells 74 g (d.files.map eF)))) ∧ ∀ b, b < σ.length → b ≠ i → b ≠ l → σ'[b]? = σ[b]?) → R (.ret (i64 (delete d s).1)) σ') : C tE 33 [.ptr i 0 0 [], .str s] σ R :=
 R_put_at (args := [.ptr 0 0 0 [], .str s]) h0 rfl rfl (fun r hr => by simp [renL, ren, hr]) (fun r => rfl) (fun R g h => R_delete hI hS h) (fun h0' R h => R_delete_0 hI h0' h) h
end
end Go.Proofs.YtdplbgfokoajjaaGreat
end
