/- Package disk: Crash. -/
import Derived.Test.YtdplbgfokoajjaaGreatXg
import Derived.Test.YtdplbgfokoajjaaGreatXd
import Derived.Test.YtdplbgfokoajjaaGreatRows
import Derived.ProofKit
section
set_option linter.unusedVariables false
set_option linter.unusedSimpArgs false
set_option maxRecDepth 20000
namespace Go.Proofs.YtdplbgfokoajjaaGreat
open Go
attribute [local simp] RF_nil RF_cons afterRF_ret nilCmp sop sGuard isCall sCallee Fr.eval Fr.get Fr.put ofConst sLoad sStore sBuiltin Fr.args bodyQ sRes oneOf sBin sInt sUn
attribute [local simp] RD_nil RD_cons noConf clear accAdd Tab.pr Tab.slot foot wid idOf refId Op.operands Call.operands sFieldAddr sNilCheck sLookup keyLit sMapSet sMapDel sLen Store.at Store.new getP setP typeAt fits evalParts sBuildSlice sFill sList sApp sAppend frzRe frz pureB pureL
attribute [local simp] dkB dkS u8s optEval sSlice sIndexAddr
def ints (l : List Int) : List PV := l.map i64
def crF (f : Fl) (k : Option Int) : Fl :=
 match k with
 | some k => ⟨f.b.take (f.last + min (max k 0) (f.b.length - f.last)).toNat, f.last + min (max k 0) (f.b.length - f.last)⟩
 | none => ⟨f.b.take f.last.toNat, f.last⟩
def crFs (keep : List Int) : Nat → List (List UInt8) → List (List UInt8 × Fl) → List (List UInt8 × Fl)
 | _, [], fs => fs
 | i, n :: ns, fs => crFs keep (i + 1) ns (match dget n fs with | some f => dput n (crF f keep[i]?) fs | none => fs)
structure FlOK (f : Fl) : Prop where
 lo : 0 ≤ f.last
 hi : f.last ≤ f.b.length
 sz : f.b.length < 100000000
theorem crF_ok {f : Fl} (h : FlOK f) (k : Option Int) : FlOK (crF f k) := by
 obtain ⟨h1, h2, h3⟩ := h
 unfold crF
 split
 ·rename_i k
  refine ⟨?_, ?_, ?_⟩
  ·show 0 ≤ f.last + min (max k 0) (f.b.length - f.last); omega
  ·show f.last + min (max k 0) (f.b.length - f.last) ≤ (List.length (f.b.take _) : Nat)
   rw [List.length_take]; omega
  ·show List.length (f.b.take _) < _
   rw [List.length_take]; omega
 ·refine ⟨h1, ?_, ?_⟩
  ·show f.last ≤ (List.length (f.b.take _) : Nat)
   rw [List.length_take]; omega
  ·show List.length (f.b.take _) < _
   rw [List.length_take]; omega
theorem dget_dins (n m : List UInt8) (f : Fl) : ∀ l : List (List UInt8 × Fl), (∀ p ∈ l, p.1 ≠ n) → dget m (dins (n, f) l) = if m = n then some f else dget m l
 | [], _ => by
  simp only [dins, dget, List.find?_cons, List.find?_nil]
  by_cases h : m = n
  ·simp [h]
  ·have : (n == m) = false := by simp [Ne.symm h]
   simp [h, this]
 | y :: l, hl => by
  have ih := dget_dins n m f l fun p hp => hl p (by simp [hp])
  simp only [dins]
  split
  ·by_cases h : m = n
   ·simp [dget, h]
   ·have : (n == m) = false := by simp [Ne.symm h]
    simp [dget, List.find?_cons, h, this]
  ·have hy := hl y (by simp)
   by_cases h : y.1 = m
   ·have hmn : m ≠ n := fun e => hy (h.trans e)
    simp [dget, List.find?_cons, h, hmn]
   ·have hb : (y.1 == m) = false := by simp [h]
    simp only [dget, List.find?_cons, hb] at ih ⊢
    exact ih
theorem dget_ddel (n m : List UInt8) (l : List (List UInt8 × Fl)) : dget m (ddel n l) = if m = n then none else dget m l := by
 unfold dget ddel
 induction l with
 | nil => simp
 | cons y l ih =>
  simp only [List.filter_cons, List.find?_cons]
  by_cases h : y.1 = n
  ·have hb : (y.1 == n) = true := by simp [h]
   simp only [hb, Bool.not_true, Bool.false_eq_true, if_false, ih]
   by_cases hm : m = n
   ·simp [hm]
   ·have hb2 : (y.1 == m) = false := by simp [h, Ne.symm hm]
    simp [hm, hb2]
  ·have hb : (y.1 == n) = false := by simp [h]
   simp only [hb, Bool.not_false, if_true, List.find?_cons]
   by_cases hm : y.1 = m
   ·have hmn : m ≠ n := fun e => h (hm.trans e)
    simp [hm, hmn]
   ·have hb2 : (y.1 == m) = false := by simp [hm]
    simp only [hb2, ih]
theorem dget_dput (n m : List UInt8) (f : Fl) (l : List (List UInt8 × Fl)) : dget m (dput n f l) = if m = n then some f else dget m l := by
 unfold dput
 rw [dget_dins n m f _ fun p hp => by simp [ddel] at hp; exact hp.2, dget_ddel]
 by_cases h : m = n <;> simp [h]
theorem dins_len (x : List UInt8 × Fl) : ∀ l, (dins x l).length = l.length + 1
 | [] => rfl
 | y :: l => by
  simp only [dins]
  split
  ·simp
  ·simp [dins_len x l]
theorem ddel_len (n : List UInt8) (l : List (List UInt8 × Fl)) : (ddel n l).length ≤ l.length := List.length_filter_le _ _
theorem dput_len (n : List UInt8) (f : Fl) (l : List (List UInt8 × Fl)) : (dput n f l).length ≤ l.length + 1 := by
 unfold dput
 rw [dins_len]
 have := ddel_len n l
 omega
theorem mem_u8l (x : PV) (l : List UInt8) : x ∈ u8l l ↔ ∃ b ∈ l, PV.int .u8 b.toNat = x := List.mem_map
theorem u8l_take (l : List UInt8) (n : Nat) : u8l (l.take n) = (u8l l).take n := by simp [u8l]
theorem encFs_below (n : Nat) (l : List (List UInt8 × Fl)) : (encFs l).all (fun q => belowB n q.2) = true := by
 simp only [encFs, List.all_map, List.all_eq_true]
 intro p _
 simp [encF, u8s, belowB, belowL]
section
variable {R : Re → Store → Prop} {d : Dk} {keep : List Int}
theorem C_crash (hl : d.files.length < 1000) (hm : ∀ n ∈ names d, n.length ≤ maxLen) (hf : ∀ n ∈ names d, ∃ f, dget n d.files = some f ∧ FlOK f) (hk : ∀ k ∈ keep, k ≤ 9223372036854775807) (hkl : keep.length ≤ 9223372036854775807)
  (h : R (.ret (.tup [])) (dkS { d with files := crFs keep 0 (names d) d.files, fuse := -1, fail := 0 })) : C tE 29 [.ptr 0 0 0 [], .lit (ints keep)] (dkS d) R := by
 refine C_new tOK ?_
 refine C_bodyk tOK Tryz.func29 rfl (Nat.le_of_ble_eq_true rfl) fun K hK => ?_; simp
 repeat (first | (refine T_seqk fun K hK => ?_) | (refine T_reg tOK rfl ?_; simp) | (refine T_ret ?_; try simp) | (refine T_skip ?_; try simp) | (refine T_blockk fun K hK => ?_) | (with_reducible apply_assumption -exfalso -symm) | (rw [afterRF_ret]; simp) | (refine T_exit ?_; try simp) | (refine T_cond_t ?_ ?_; · (simp; done)) | (refine T_cond_f ?_ ?_; · (simp; done)) | (rintro _ _ (_ | _) hz9 <;> first | (simp; done) | (simp at hz9; done)) | (refine And.intro ?_ ?_) | (simp only [Post.block_ret, Post.block_exit, Post.block_normal, Post.block_pan, Post.seq_ret, Post.seq_exit, Post.seq_normal, Post.seq_pan]; try simp) | (refine T_draw tOK tmix [([], 0), ([0], 1), ([], 2), ([], 3), ([2, 3], 4), ([2, 3, 4], 5), ([2, 3, 4, 5], 6), ([], 7), ([7], 8), ([7, 8], 9), ([], 10), ([10], 11), ([7, 8, 9, 10, 11], 12), ([2, 3, 4, 5, 6, 7, 8, 9, 10, 11, 12], 13), ([0, 1, 2, 3, 4, 5, 6, 7, 8, 9, 10, 11, 12, 13], 14), ([0, 1, 2, 3, 4, 5, 6, 7, 8, 9, 10, 11, 12, 13, 14], 15), ([0, 1, 2, 3, 4, 5, 6, 7, 8, 9, 10, 11, 12, 13, 14, 15], 16)] 14 (by decide +kernel) ?_; simp) | (refine T_draw tOK tmix [([], 0), ([0], 1), ([0, 1], 2), ([0, 1, 2], 3), ([], 4), ([], 5), ([0, 1, 2, 3, 4, 5], 6)] 6 (by decide +kernel) ?_; simp))
 refine C_list (by omega) ?_
 repeat (first | (refine T_seqk fun K hK => ?_) | (refine T_reg tOK rfl ?_; simp) | (refine T_ret ?_; try simp) | (refine T_skip ?_; try simp) | (refine T_blockk fun K hK => ?_) | (with_reducible apply_assumption -exfalso -symm) | (rw [afterRF_ret]; simp) | (refine T_exit ?_; try simp) | (refine T_cond_t ?_ ?_; · (simp; done)) | (refine T_cond_f ?_ ?_; · (simp; done)) | (rintro _ _ (_ | _) hz9 <;> first | (simp; done) | (simp at hz9; done)) | (refine And.intro ?_ ?_) | (simp only [Post.block_ret, Post.block_exit, Post.block_normal, Post.block_pan, Post.seq_ret, Post.seq_exit, Post.seq_normal, Post.seq_pan]; try simp) | (refine T_draw tOK tmix [([], 0), ([0], 1), ([], 2), ([], 3), ([2, 3], 4), ([2, 3, 4], 5), ([2, 3, 4, 5], 6), ([], 7), ([7], 8), ([7, 8], 9), ([], 10), ([10], 11), ([7, 8, 9, 10, 11], 12), ([2, 3, 4, 5, 6, 7, 8, 9, 10, 11, 12], 13), ([0, 1, 2, 3, 4, 5, 6, 7, 8, 9, 10, 11, 12, 13], 14), ([0, 1, 2, 3, 4, 5, 6, 7, 8, 9, 10, 11, 12, 13, 14], 15), ([0, 1, 2, 3, 4, 5, 6, 7, 8, 9, 10, 11, 12, 13, 14, 15], 16)] 14 (by decide +kernel) ?_; simp) | (refine T_draw tOK tmix [([], 0), ([0], 1), ([0, 1], 2), ([0, 1, 2], 3), ([], 4), ([], 5), ([0, 1, 2, 3, 4, 5], 6)] 6 (by decide +kernel) ?_; simp))
 refine T_loop ?_
 refine TL_keep [0, 1, 8, 9, 10] ?_
 simp [Fr.keep]
 have hlen : (names d).length = d.files.length := by simp [names]
 have hsl : (strs (names d)).length = (names d).length := by simp [strs]
 refine (?key : ∀ (ns : List (List UInt8)) (k : Nat) (fs : List (List UInt8 × Fl)), (names d).drop k = ns → (∀ n ∈ ns, ∃ f, dget n fs = some f ∧ FlOK f) → fs.length + ns.length < 100000 → crFs keep k ns fs = crFs keep 0 (names d) d.files →
  TL tE _ _ _ _ [(0, .ptr 0 0 0 []), (1, .lit (ints keep)), (8, .lit (strs (names d))), (9, i64 ↑(strs (names d)).length), (10, i64 k)] [some (Blk.cells 54 0 [PV.agg 54 [i64 d.room, PV.map 1, i64 d.fuse, i64 d.fail]]), some (Blk.mp 9 (encFs fs))]) (names d) 0 d.files rfl hf (by omega) rfl
 intro ns
 induction ns with
 | nil =>
  intro k fs hdrop _ _ hfs
  have hk0 : decide (k < (strs (names d)).length) = false := by
   have := List.drop_eq_nil_iff.1 hdrop
   rw [decide_eq_false_iff_not]; omega
  refine TL_round ?_
  repeat (first | (refine T_seqk fun K hK => ?_) | (refine T_reg tOK rfl ?_; simp [hk0]) | (refine T_ret ?_; try simp) | (refine T_skip ?_; try simp) | (refine T_blockk fun K hK => ?_) | (with_reducible apply_assumption -exfalso -symm) | (rw [afterRF_ret]; simp [hk0]) | (refine T_exit ?_; try simp) | (refine T_cond_t ?_ ?_; · (simp; done)) | (refine T_cond_f ?_ ?_; · (simp; done)) | (rintro _ _ (_ | _) hz9 <;> first | (simp; done) | (simp at hz9; done)) | (refine And.intro ?_ ?_) | (simp only [Post.block_ret, Post.block_exit, Post.block_normal, Post.block_pan, Post.seq_ret, Post.seq_exit, Post.seq_normal, Post.seq_pan]; try simp [hk0]) | (refine T_draw tOK tmix [([], 0), ([0], 1), ([], 2), ([], 3), ([2, 3], 4), ([2, 3, 4], 5), ([2, 3, 4, 5], 6), ([], 7), ([7], 8), ([7, 8], 9), ([], 10), ([10], 11), ([7, 8, 9, 10, 11], 12), ([2, 3, 4, 5, 6, 7, 8, 9, 10, 11, 12], 13), ([0, 1, 2, 3, 4, 5, 6, 7, 8, 9, 10, 11, 12, 13], 14), ([0, 1, 2, 3, 4, 5, 6, 7, 8, 9, 10, 11, 12, 13, 14], 15), ([0, 1, 2, 3, 4, 5, 6, 7, 8, 9, 10, 11, 12, 13, 14, 15], 16)] 14 (by decide +kernel) ?_; simp [hk0]) | (refine T_draw tOK tmix [([], 0), ([0], 1), ([0, 1], 2), ([0, 1, 2], 3), ([], 4), ([], 5), ([0, 1, 2, 3, 4, 5], 6)] 6 (by decide +kernel) ?_; simp [hk0]))
  ·exact .inr (by simp [allStore, allBlk, allL, allB]; exact fun a b => encFs_all _ _ (a, b))
  ·have hfs : fs = crFs keep 0 (names d) d.files := hfs
   subst hfs
   simpa [frzT, frzN] using h
 | cons n ns ih =>
  intro k fs hdrop hP hlen2 hfs
  have hkl : k < (names d).length := by
   rcases Nat.lt_or_ge k (names d).length with h | h
   ·exact h
   ·rw [List.drop_eq_nil_iff.2 h] at hdrop; simp at hdrop
  have hk0 : decide (k < (strs (names d)).length) = true := by rw [decide_eq_true_eq, hsl]; exact hkl
  have hnk : (names d)[k]? = some n := by
   have := List.getElem?_drop (xs := names d) (i := k) (j := 0)
   rw [hdrop] at this; simpa using this.symm
  have hsk : (strs (names d))[k]? = some (.str ⟨n.toArray⟩) := by simp [strs, hnk]
  have hns : (⟨n.toArray⟩ : ByteArray).size ≤ maxLen := hm n (List.mem_of_getElem? hnk)
  obtain ⟨f, hg, hF⟩ := hP n (by simp)
  have hget := mget_enc n fs
  rw [hg] at hget
  obtain ⟨q1, q2, q3⟩ := hF
  have hF : FlOK f := ⟨q1, q2, q3⟩
  have hwk : IntKind.i64.wrap ((k : Int) + 1) = ((k + 1 : Nat) : Int) := by rw [IntWalk.i64_in _ (by omega)]; omega
  have hfl : (encFs fs).length < 1000000 := by simp only [encFs, List.length_map]; simp at hlen2; omega
  have hbl : (u8l f.b).length = f.b.length := by simp [u8l]
  have hcr : ∀ x, keep[k]? = x → crFs keep (k + 1) ns (dput n (crF f x) fs) = crFs keep 0 (names d) d.files := fun x hx => by
   rw [← hfs]; simp only [crFs, hg, hx]
  have hP' : ∀ x, ∀ m ∈ ns, ∃ g, dget m (dput n (crF f x) fs) = some g ∧ FlOK g := fun x m hm' => by
   rw [dget_dput]
   split
   ·exact ⟨_, rfl, crF_ok hF x⟩
   ·exact hP m (by simp [hm'])
  have hlen' : ∀ x, (dput n (crF f x) fs).length + ns.length < 100000 := fun x => by
   have := dput_len n (crF f x) fs
   simp at hlen2; omega
  have hdrop' : (names d).drop (k + 1) = ns := by
   have := congrArg (List.drop 1) hdrop
   simpa [List.drop_drop] using this
  cases hkk : keep[k]? with
  | none =>
   have hkk0 : decide (k < (ints keep).length) = false := by
    rw [decide_eq_false_iff_not]
    have := List.getElem?_eq_none_iff.1 hkk
    simp [ints]; omega
   have hput : mput (.string n) (.agg 72 [.lit ((u8l f.b).take f.last.toNat), i64 f.last]) (encFs fs) = encFs (dput n (crF f none) fs) := by
    rw [← u8l_take]; exact mput_enc n (crF f none) fs
   have hfit : f.last ≤ (f.b.length : Int) := q2
   refine TL_round ?_
   repeat (first | (refine T_seqk fun K hK => ?_) | (refine T_reg tOK rfl ?_; simp [hk0,hsk,hns,hget,encF,hkk0,hwk,hfl,hbl,q1,q2,mem_u8l]) | (refine T_ret ?_; try simp) | (refine T_skip ?_; try simp) | (refine T_blockk fun K hK => ?_) | (with_reducible apply_assumption -exfalso -symm) | (rw [afterRF_ret]; simp [hk0,hsk,hns,hget,encF,hkk0,hwk,hfl,hbl,q1,q2,mem_u8l]) | (refine T_exit ?_; try simp) | (refine T_cond_t ?_ ?_; · (simp; done)) | (refine T_cond_f ?_ ?_; · (simp; done)) | (rintro _ _ (_ | _) hz9 <;> first | (simp; done) | (simp at hz9; done)) | (refine And.intro ?_ ?_) | (simp only [Post.block_ret, Post.block_exit, Post.block_normal, Post.block_pan, Post.seq_ret, Post.seq_exit, Post.seq_normal, Post.seq_pan]; try simp [hk0,hsk,hns,hget,encF,hkk0,hwk,hfl,hbl,q1,q2,mem_u8l]) | (refine T_draw tOK tmix [([], 0), ([0], 1), ([], 2), ([], 3), ([2, 3], 4), ([2, 3, 4], 5), ([2, 3, 4, 5], 6), ([], 7), ([7], 8), ([7, 8], 9), ([], 10), ([10], 11), ([7, 8, 9, 10, 11], 12), ([2, 3, 4, 5, 6, 7, 8, 9, 10, 11, 12], 13), ([0, 1, 2, 3, 4, 5, 6, 7, 8, 9, 10, 11, 12, 13], 14), ([0, 1, 2, 3, 4, 5, 6, 7, 8, 9, 10, 11, 12, 13, 14], 15), ([0, 1, 2, 3, 4, 5, 6, 7, 8, 9, 10, 11, 12, 13, 14, 15], 16)] 14 (by decide +kernel) ?_; simp [hk0,hsk,hns,hget,encF,hkk0,hwk,hfl,hbl,q1,q2,mem_u8l]) | (refine T_draw tOK tmix [([], 0), ([0], 1), ([0, 1], 2), ([0, 1, 2], 3), ([], 4), ([], 5), ([0, 1, 2, 3, 4, 5], 6)] 6 (by decide +kernel) ?_; simp [hk0,hsk,hns,hget,encF,hkk0,hwk,hfl,hbl,q1,q2,mem_u8l]))
   refine TL_fall 2 [0, 1, 8, 9, 10] (Nat.le_refl _) ?_ ?_ ?_ ?_ (ih (k + 1) _ hdrop' (hP' none) (hlen' none) (hcr none hkk))
   ·simp [Fr.keep]
   ·simp [belowFr, belowB]
   ·rw [hput]; rfl
   ·simp only [belowStore, belowBlk, List.all_cons, encFs_below]; simp [belowL, belowB]
  | some q =>
   have hkl2 : k < keep.length := getElem?_lt hkk
   have hkk0 : decide (k < (ints keep).length) = true := by rw [decide_eq_true_eq]; simpa [ints] using hkl2
   have hik : (ints keep)[k]? = some (i64 q) := by simp [ints, hkk]
   have hq := hk q (List.mem_of_getElem? hkk)
   have hput : mput (.string n) (.agg 72 [.lit ((u8l f.b).take (f.last + min (max q 0) (f.b.length - f.last)).toNat), i64 (f.last + min (max q 0) (f.b.length - f.last))]) (encFs fs) = encFs (dput n (crF f (some q)) fs) := by
    rw [← u8l_take]; exact mput_enc n (crF f (some q)) fs
   have hw1 : IntKind.i64.wrap ((f.b.length : Int) - f.last) = (f.b.length : Int) - f.last := IntWalk.i64_in _ (by omega)
   generalize hL : f.last + min (max q 0) ((f.b.length : Int) - f.last) = L at hput
   have hw2 : IntKind.i64.wrap (f.last + min (max q 0) ((f.b.length : Int) - f.last)) = L := by rw [hL]; exact IntWalk.i64_in _ (by omega)
   have q4 : 0 ≤ L := by omega
   have q5 : L ≤ (f.b.length : Int) := by omega
   clear hq
   refine TL_round ?_
   repeat (first | (refine T_seqk fun K hK => ?_) | (refine T_reg tOK rfl ?_; simp [hk0,hsk,hns,hget,encF,hkk0,hik,hwk,hfl,hbl,hw1,hw2,q1,q2,q4,q5,mem_u8l]) | (refine T_ret ?_; try simp) | (refine T_skip ?_; try simp) | (refine T_blockk fun K hK => ?_) | (with_reducible apply_assumption -exfalso -symm) | (rw [afterRF_ret]; simp [hk0,hsk,hns,hget,encF,hkk0,hik,hwk,hfl,hbl,hw1,hw2,q1,q2,q4,q5,mem_u8l]) | (refine T_exit ?_; try simp) | (refine T_cond_t ?_ ?_; · (simp; done)) | (refine T_cond_f ?_ ?_; · (simp; done)) | (rintro _ _ (_ | _) hz9 <;> first | (simp; done) | (simp at hz9; done)) | (refine And.intro ?_ ?_) | (simp only [Post.block_ret, Post.block_exit, Post.block_normal, Post.block_pan, Post.seq_ret, Post.seq_exit, Post.seq_normal, Post.seq_pan]; try simp [hk0,hsk,hns,hget,encF,hkk0,hik,hwk,hfl,hbl,hw1,hw2,q1,q2,q4,q5,mem_u8l]) | (refine T_draw tOK tmix [([], 0), ([0], 1), ([], 2), ([], 3), ([2, 3], 4), ([2, 3, 4], 5), ([2, 3, 4, 5], 6), ([], 7), ([7], 8), ([7, 8], 9), ([], 10), ([10], 11), ([7, 8, 9, 10, 11], 12), ([2, 3, 4, 5, 6, 7, 8, 9, 10, 11, 12], 13), ([0, 1, 2, 3, 4, 5, 6, 7, 8, 9, 10, 11, 12, 13], 14), ([0, 1, 2, 3, 4, 5, 6, 7, 8, 9, 10, 11, 12, 13, 14], 15), ([0, 1, 2, 3, 4, 5, 6, 7, 8, 9, 10, 11, 12, 13, 14, 15], 16)] 14 (by decide +kernel) ?_; simp [hk0,hsk,hns,hget,encF,hkk0,hik,hwk,hfl,hbl,hw1,hw2,q1,q2,q4,q5,mem_u8l]) | (refine T_draw tOK tmix [([], 0), ([0], 1), ([0, 1], 2), ([0, 1, 2], 3), ([], 4), ([], 5), ([0, 1, 2, 3, 4, 5], 6)] 6 (by decide +kernel) ?_; simp [hk0,hsk,hns,hget,encF,hkk0,hik,hwk,hfl,hbl,hw1,hw2,q1,q2,q4,q5,mem_u8l]))
   refine TL_fall 2 [0, 1, 8, 9, 10] (Nat.le_refl _) ?_ ?_ ?_ ?_ (ih (k + 1) _ hdrop' (hP' (some q)) (hlen' (some q)) (hcr (some q) hkk))
   ·simp [Fr.keep]
   ·simp [belowFr, belowB]
   ·rw [hput]; rfl
   ·simp only [belowStore, belowBlk, List.all_cons, encFs_below]; simp [belowL, belowB]
end
end Go.Proofs.YtdplbgfokoajjaaGreat
end
section
set_option linter.unusedVariables false
set_option linter.unusedSimpArgs false
set_option maxRecDepth 20000
namespace Go.Proofs.YtdplbgfokoajjaaGreat
open Go
structure Inv (d : Dk) : Prop where
 room0 : 0 ≤ d.room
 room1 : d.room ≤ 1048576
 n : d.files.length ≤ 64
 fit : (used d.files : Int) ≤ d.room
 fl : ∀ p ∈ d.files, 0 ≤ p.2.last ∧ p.2.last ≤ p.2.b.length
 nm : ∀ p ∈ d.files, p.1.length ≤ 16
 key : d.files.Pairwise fun p q => p.1 ≠ q.1
 fuse0 : -1 ≤ d.fuse
 fuse1 : d.fuse ≤ 9223372036854775807
 fail0 : 0 ≤ d.fail
 fail1 : d.fail ≤ 9223372036854775807
def sync (d : Dk) (s : ByteArray) : Int × Dk :=
 if d.fuse == 0 then (42, d) else match dget s.data.toList d.files with
 | none => (3, burn d)
 | some f => if 0 < d.fail then (41, { burn d with fail := d.fail - 1 }) else (0, { burn d with files := dput s.data.toList { f with last := f.b.length } d.files })
def delete (d : Dk) (s : ByteArray) : Int × Dk :=
 if d.fuse == 0 then (42, d) else match dget s.data.toList d.files with
 | none => (3, burn d)
 | some f => (0, { burn d with files := ddel s.data.toList d.files })
def rename (d : Dk) (s t : ByteArray) : Int × Dk :=
 if d.fuse == 0 then (42, d) else if named t = false then (1, burn d) else match dget s.data.toList d.files with
 | none => (3, burn d)
 | some f => (0, { burn d with files := dput t.data.toList f (ddel s.data.toList d.files) })
def write (d : Dk) (s : ByteArray) (b : List UInt8) : Int × Dk :=
 if d.fuse == 0 then (42, d) else if named s = false then (1, burn d) else match dget s.data.toList d.files with
 | none => if 64 ≤ d.files.length then (5, burn d) else if d.room - used d.files < b.length then (5, burn d) else (0, { burn d with files := dput s.data.toList ⟨b, 0⟩ d.files })
 | some f => if d.room - used d.files < b.length then (5, burn d) else (0, { burn d with files := dput s.data.toList { f with b := f.b ++ b } d.files })
def setFuse (d : Dk) (n : Int) : Dk := { d with fuse := max n (-1) }
def setFail (d : Dk) (n : Int) : Dk := { d with fail := max n 0 }
def crash (d : Dk) (keep : List Int) : Dk := { d with files := crFs keep 0 (names d) d.files, fuse := -1, fail := 0 }
theorem dget_mem {n : List UInt8} {f : Fl} {l : List (List UInt8 × Fl)} (h : dget n l = some f) : (n, f) ∈ l := by
 unfold dget at h
 simp only [Option.map_eq_some_iff] at h
 obtain ⟨p, hp, rfl⟩ := h
 have h1 := List.find?_some hp
 have h2 := List.mem_of_find?_eq_some hp
 simp only [beq_iff_eq] at h1
 rw [← h1]; exact h2
theorem len_le_used {n : List UInt8} {f : Fl} : ∀ {l : List (List UInt8 × Fl)}, (n, f) ∈ l → f.b.length ≤ used l
 | p :: l, h => by
  simp only [used, List.map_cons, List.sum_cons]
  rcases List.mem_cons.1 h with rfl | h
  ·exact Nat.le_add_right _ _
  ·have := len_le_used h
   simp only [used] at this; omega
theorem dget_some_of {n : List UInt8} {l : List (List UInt8 × Fl)} (h : n ∈ l.map (·.1)) : ∃ f, dget n l = some f := by
 obtain ⟨p, hp, rfl⟩ := List.mem_map.1 h
 unfold dget
 cases hf : l.find? fun q => q.1 == p.1 with
 | some q => exact ⟨q.2, rfl⟩
 | none => have := List.find?_eq_none.1 hf p hp; simp at this
theorem mem_names {d : Dk} {n : List UInt8} : n ∈ names d ↔ n ∈ d.files.map (·.1) := by
 unfold names
 exact List.mem_mergeSort
theorem names_len (d : Dk) : (names d).length = d.files.length := by simp [names]
namespace Inv
variable {d : Dk}
theorem flOK (h : Inv d) {n : List UInt8} {f : Fl} (hg : dget n d.files = some f) : FlOK f := by
 have hm := dget_mem hg
 have h1 := h.fl _ hm
 have h2 := len_le_used hm
 have h3 := h.fit
 have h4 := h.room1
 exact ⟨h1.1, h1.2, by omega⟩
theorem wfuse (h : Inv d) : IntKind.i64.wrap (d.fuse - 1) = d.fuse - 1 := IntWalk.i64_in _ (by have := h.fuse0; have := h.fuse1; omega)
theorem wfail (h : Inv d) : IntKind.i64.wrap (d.fail - 1) = d.fail - 1 := IntWalk.i64_in _ (by have := h.fail0; have := h.fail1; omega)
theorem usedlt (h : Inv d) : Proofs.YtdplbgfokoajjaaGreat.used d.files < 1000000000 := by have := h.fit; have := h.room1; omega
theorem wroom (h : Inv d) : IntKind.i64.wrap (d.room - Proofs.YtdplbgfokoajjaaGreat.used d.files) = d.room - Proofs.YtdplbgfokoajjaaGreat.used d.files := IntWalk.i64_in _ (by have := h.fit; have := h.room0; have := h.room1; omega)
theorem enclen (h : Inv d) : (encFs d.files).length < 1000000 := by have := h.n; simp only [encFs, List.length_map]; omega
theorem enclen' (h : Inv d) (n : List UInt8) : (encFs (ddel n d.files)).length < 1000000 := by have := h.n; have := ddel_len n d.files; simp only [encFs, List.length_map]; omega
end Inv
section
variable {R : Re → Store → Prop} {d : Dk} {s t : ByteArray} {b : List UInt8} {keep : List Int}
theorem C_sync (hI : Inv d) (hs : s.size ≤ maxLen) (h : R (.ret (i64 (sync d s).1)) (dkS (sync d s).2)) : C tE 25 [.ptr 0 0 0 [], .str s] (dkS d) R := by
 unfold sync at h
 cases hf : d.fuse == 0 with
 | true => rw [hf] at h; exact C_sync_dead hs (by simpa using hf) h
 | false =>
  rw [hf] at h
  cases hg : dget s.data.toList d.files with
  | none => rw [hg] at h; exact C_sync_none hs hf hI.wfuse hg h
  | some f =>
   rw [hg] at h
   by_cases hp : 0 < d.fail
   ·simp only [hp, if_true] at h; exact C_sync_fail hs hf hI.wfuse hg (by simpa using hp) hI.wfail h
   ·simp only [hp, if_false] at h; exact C_sync_ok hs hI.enclen hf hI.wfuse hg (by simpa using hp) h
theorem C_delete (hI : Inv d) (hs : s.size ≤ maxLen) (h : R (.ret (i64 (delete d s).1)) (dkS (delete d s).2)) : C tE 27 [.ptr 0 0 0 [], .str s] (dkS d) R := by
 unfold delete at h
 cases hf : d.fuse == 0 with
 | true => rw [hf] at h; exact C_delete_dead hs (by simpa using hf) h
 | false =>
  rw [hf] at h
  cases hg : dget s.data.toList d.files with
  | none => rw [hg] at h; exact C_delete_none hs hf hI.wfuse hg h
  | some f => rw [hg] at h; exact C_delete_ok hs hf hI.wfuse hg h
theorem named_size (h : named s = true) : s.size ≤ 16 := by
 unfold named at h
 simp only [Bool.and_eq_true, decide_eq_true_eq] at h
 have := h.1.2; omega
theorem C_rename (hI : Inv d) (hs : s.size ≤ maxLen) (h : R (.ret (i64 (rename d s t).1)) (dkS (rename d s t).2)) : C tE 26 [.ptr 0 0 0 [], .str s, .str t] (dkS d) R := by
  unfold rename at h
  cases hf : d.fuse == 0 with
  | true => rw [hf] at h; exact C_rename_dead (by simpa using hf) h
  | false =>
    rw [hf] at h
    cases hn : named t with
    | false => rw [hn] at h; exact C_rename_arg hf hI.wfuse hn h
    | true =>
      have ht : t.size ≤ maxLen := by have := named_size hn; have : 16 ≤ maxLen := by decide
                                      omega
      rw [hn] at h
      cases hg : dget s.data.toList d.files with
      | none => rw [hg] at h; exact C_rename_none hs hf hI.wfuse hn hg h
      | some f => rw [hg] at h; exact C_rename_ok hs ht (hI.enclen' _) hf hI.wfuse hn hg h
theorem C_write (hI : Inv d) (hs : s.size ≤ maxLen) (h : R (.ret (i64 (write d s b).1)) (dkS (write d s b).2)) : C tE 30 [.ptr 0 0 0 [], .str s, u8s b] (dkS d) R := by
 unfold write at h
 have hu := hI.fit
 have hr := hI.room1
 cases hf : d.fuse == 0 with
 | true => rw [hf] at h; exact C_write_dead (by simpa using hf) h
 | false =>
  rw [hf] at h
  cases hn : named s with
  | false => rw [hn] at h; exact C_write_arg hs hf hI.wfuse hn h
  | true =>
   rw [hn] at h
   cases hg : dget s.data.toList d.files with
   | none =>
    rw [hg] at h
    by_cases hc : 64 ≤ d.files.length
    ·simp only [hc, if_true] at h
     exact C_write_full0 hs hf hI.wfuse hn hg (by simpa [encFs] using hc) h
    ·simp only [hc, if_false] at h
     have hc' : decide (64 ≤ ((encFs d.files).length : Int)) = false := by rw [decide_eq_false_iff_not]; simp only [encFs, List.length_map]; omega
     by_cases hb : d.room - used d.files < b.length
     ·simp only [hb, if_true] at h
      exact C_write_full1 hs hf hI.wfuse hn hg hc' hI.usedlt hI.wroom (by simpa using hb) h
     ·simp only [hb, if_false] at h
      exact C_write_ok0 hs hf hI.wfuse hn hg hc' hI.usedlt hI.wroom (by simpa using hb) hI.enclen (by simp; omega) h
   | some f =>
    rw [hg] at h
    have hfl := len_le_used (dget_mem hg)
    by_cases hb : d.room - used d.files < b.length
    ·simp only [hb, if_true] at h
     exact C_write_full2 hs hf hI.wfuse hn hg hI.usedlt hI.wroom (by simpa using hb) h
    ·simp only [hb, if_false] at h
     exact C_write_ok1 hs hf hI.wfuse hn hg hI.usedlt hI.wroom (by simpa using hb) hI.enclen (by omega) h
theorem C_crash' (hI : Inv d) (hk : ∀ k ∈ keep, k ≤ 9223372036854775807) (hkl : keep.length ≤ 9223372036854775807) (h : R (.ret (.tup [])) (dkS (crash d keep))) : C tE 29 [.ptr 0 0 0 [], .lit (ints keep)] (dkS d) R := by
 have h16 : 16 ≤ maxLen := by decide
 refine C_crash (by have := hI.n; omega) (fun n hn => ?_) (fun n hn => ?_) hk hkl h
 ·obtain ⟨p, hp, rfl⟩ := List.mem_map.1 (mem_names.1 hn)
  exact Nat.le_trans (hI.nm p hp) h16
 ·obtain ⟨f, hf⟩ := dget_some_of (mem_names.1 hn)
  exact ⟨f, hf, hI.flOK hf⟩
end
end Go.Proofs.YtdplbgfokoajjaaGreat
end
section
set_option maxRecDepth 20000
set_option linter.unusedVariables false
set_option linter.unusedSimpArgs false
namespace Go.Proofs.YtdplbgfokoajjaaGreat
open Go
theorem mem_dins {x p : List UInt8 × Fl} : ∀ {l}, p ∈ dins x l ↔ p = x ∨ p ∈ l
 | [] => by simp [dins]
 | y :: l => by
  simp only [dins]
  split
  ·simp
  ·simp only [List.mem_cons, mem_dins (l := l)]
   constructor
   ·rintro (h | h | h) <;> simp [h]
   ·rintro (h | h | h) <;> simp [h]
theorem mem_ddel {n : List UInt8} {p : List UInt8 × Fl} {l : List (List UInt8 × Fl)} : p ∈ ddel n l ↔ p ∈ l ∧ p.1 ≠ n := by simp [ddel]
theorem mem_dput {n : List UInt8} {f : Fl} {p : List UInt8 × Fl} {l : List (List UInt8 × Fl)} : p ∈ dput n f l ↔ p = (n, f) ∨ (p ∈ l ∧ p.1 ≠ n) := by
 unfold dput
 rw [mem_dins, mem_ddel]
abbrev Keys (l : List (List UInt8 × Fl)) : Prop := l.Pairwise fun p q => p.1 ≠ q.1
theorem keys_dins {x : List UInt8 × Fl} : ∀ {l}, (∀ p ∈ l, p.1 ≠ x.1) → Keys l → Keys (dins x l)
 | [], _, _ => by simp [dins]
 | y :: l, h, hk => by
  obtain ⟨h1, h2⟩ := List.pairwise_cons.1 hk
  simp only [dins]
  split
  ·exact List.pairwise_cons.2 ⟨fun p hp => (h p hp).symm, hk⟩
  ·refine List.pairwise_cons.2 ⟨fun p hp => ?_, keys_dins (fun p hp => h p (by simp [hp])) h2⟩
   rcases mem_dins.1 hp with rfl | hp
   ·exact h y (by simp)
   ·exact h1 p hp
theorem keys_ddel {n : List UInt8} {l : List (List UInt8 × Fl)} (h : Keys l) : Keys (ddel n l) := h.filter _
theorem keys_dput {n : List UInt8} {f : Fl} {l : List (List UInt8 × Fl)} (h : Keys l) : Keys (dput n f l) := keys_dins (fun p hp => (mem_ddel.1 hp).2) (keys_ddel h)
theorem used_dins (x : List UInt8 × Fl) : ∀ l, used (dins x l) = used l + x.2.b.length
 | [] => by simp [dins, used]
 | y :: l => by
  have ih := used_dins x l
  simp only [dins]
  split
  ·simp [used]; omega
  ·simp only [used, List.map_cons, List.sum_cons] at ih ⊢; omega
theorem used_ddel_none {n : List UInt8} : ∀ {l : List (List UInt8 × Fl)}, dget n l = none → ddel n l = l
 | [], _ => rfl
 | y :: l, h => by
  unfold dget at h
  simp only [Option.map_eq_none_iff, List.find?_eq_none] at h
  unfold ddel
  exact List.filter_eq_self.2 fun p hp => by have := h p hp; simpa using this
theorem used_ddel {n : List UInt8} {f : Fl} : ∀ {l : List (List UInt8 × Fl)}, Keys l → dget n l = some f → used (ddel n l) + f.b.length = used l ∧ (ddel n l).length + 1 = l.length
 | [], _, h => by simp [dget] at h
 | y :: l, hk, h => by
  obtain ⟨h1, h2⟩ := List.pairwise_cons.1 hk
  by_cases e : y.1 = n
  ·have hf : y.2 = f := by simpa [dget, e] using h
   have hnone : ddel n l = l := by
    unfold ddel
    exact List.filter_eq_self.2 fun p hp => by have := h1 p hp; rw [e] at this; simpa using Ne.symm this
   have hd : ddel n (y :: l) = l := by
    have : (y.1 == n) = true := by simp [e]
    unfold ddel at hnone ⊢
    simp only [List.filter_cons, this, Bool.not_true, Bool.false_eq_true, if_false]
    exact hnone
   rw [hd]
   subst hf
   simp [used]; omega
  ·have hb : (y.1 == n) = false := by simp [e]
   have hg : dget n l = some f := by simpa [dget, List.find?_cons, hb] using h
   obtain ⟨i1, i2⟩ := used_ddel h2 hg
   have hd : ddel n (y :: l) = y :: ddel n l := by unfold ddel; simp [List.filter_cons, hb]
   rw [hd]
   simp only [used, List.map_cons, List.sum_cons, List.length_cons] at i1 ⊢
   omega
theorem used_dput_none {n : List UInt8} {f : Fl} {l : List (List UInt8 × Fl)} (h : dget n l = none) : used (dput n f l) = used l + f.b.length ∧ (dput n f l).length = l.length + 1 := by
 unfold dput
 rw [used_dins, dins_len, used_ddel_none h]; exact ⟨rfl, rfl⟩
theorem used_dput {n : List UInt8} {f g : Fl} {l : List (List UInt8 × Fl)} (hk : Keys l) (h : dget n l = some f) : used (dput n g l) + f.b.length = used l + g.b.length ∧ (dput n g l).length = l.length := by
 obtain ⟨h1, h2⟩ := used_ddel hk h
 unfold dput
 rw [used_dins, dins_len]; simp only; omega
variable {d : Dk} {s t : ByteArray} {b : List UInt8} {keep : List Int}
theorem Inv.burn (h : Inv d) : Inv (burn d) := by
 have h1 := h.fuse0; have h2 := h.fuse1
 exact ⟨h.room0, h.room1, h.n, h.fit, h.fl, h.nm, h.key, by simp only [Proofs.YtdplbgfokoajjaaGreat.burn]; omega, by simp only [Proofs.YtdplbgfokoajjaaGreat.burn]; omega, h.fail0, h.fail1⟩
theorem Inv.files {fs : List (List UInt8 × Fl)} (h : Inv d) (hn : fs.length ≤ 64) (hu : (used fs : Int) ≤ d.room) (hf : ∀ p ∈ fs, 0 ≤ p.2.last ∧ p.2.last ≤ p.2.b.length) (hm : ∀ p ∈ fs, p.1.length ≤ 16) (hk : Keys fs) : Inv { d with files := fs } :=
 ⟨h.room0, h.room1, hn, hu, hf, hm, hk, h.fuse0, h.fuse1, h.fail0, h.fail1⟩
theorem Inv.setFuse (h : Inv d) {n : Int} (hn : n ≤ 9223372036854775807) : Inv (setFuse d n) :=
 ⟨h.room0, h.room1, h.n, h.fit, h.fl, h.nm, h.key, by simp only [Proofs.YtdplbgfokoajjaaGreat.setFuse]; omega, by simp only [Proofs.YtdplbgfokoajjaaGreat.setFuse]; omega, h.fail0, h.fail1⟩
theorem Inv.setFail (h : Inv d) {n : Int} (hn : n ≤ 9223372036854775807) : Inv (setFail d n) :=
 ⟨h.room0, h.room1, h.n, h.fit, h.fl, h.nm, h.key, h.fuse0, h.fuse1, by simp only [Proofs.YtdplbgfokoajjaaGreat.setFail]; omega, by simp only [Proofs.YtdplbgfokoajjaaGreat.setFail]; omega⟩
theorem Inv.put_some {n : List UInt8} {f g : Fl} (h : Inv d) (hg : dget n d.files = some f) (hl : (used d.files : Int) + g.b.length ≤ d.room + f.b.length) (h0 : 0 ≤ g.last ∧ g.last ≤ g.b.length) : Inv { d with files := dput n g d.files } := by
 obtain ⟨h1, h2⟩ := used_dput (g := g) h.key hg
 refine h.files (by rw [h2]; exact h.n) (by omega) (fun p hp => ?_) (fun p hp => ?_) (keys_dput h.key)
 ·rcases mem_dput.1 hp with rfl | ⟨hp, _⟩
  ·exact h0
  ·exact h.fl p hp
 ·rcases mem_dput.1 hp with rfl | ⟨hp, _⟩
  ·exact h.nm (n, f) (dget_mem hg)
  ·exact h.nm p hp
theorem Inv.put_none {n : List UInt8} {g : Fl} (h : Inv d) (hg : dget n d.files = none) (hc : d.files.length < 64) (hl : (used d.files : Int) + g.b.length ≤ d.room) (h0 : 0 ≤ g.last ∧ g.last ≤ g.b.length) (hn : n.length ≤ 16) : Inv { d with files := dput n g d.files } := by
 obtain ⟨h1, h2⟩ := used_dput_none (f := g) hg
 refine h.files (by rw [h2]; exact hc) (by omega) (fun p hp => ?_) (fun p hp => ?_) (keys_dput h.key)
 ·rcases mem_dput.1 hp with rfl | ⟨hp, _⟩
  ·exact h0
  ·exact h.fl p hp
 ·rcases mem_dput.1 hp with rfl | ⟨hp, _⟩
  ·exact hn
  ·exact h.nm p hp
theorem Inv.del {n : List UInt8} {f : Fl} (h : Inv d) (hg : dget n d.files = some f) : Inv { d with files := ddel n d.files } := by
 obtain ⟨h1, h2⟩ := used_ddel h.key hg
 have := h.n; have := h.fit
 exact h.files (by omega) (by omega) (fun p hp => h.fl p (mem_ddel.1 hp).1) (fun p hp => h.nm p (mem_ddel.1 hp).1) (keys_ddel h.key)
theorem Inv.sync (h : Inv d) : Inv (sync d s).2 := by
 unfold Proofs.YtdplbgfokoajjaaGreat.sync
 split
 ·exact h
 ·split
  ·exact h.burn
  ·rename_i f hg
   have hb := h.burn
   split
   ·have := h.fail0; have := h.fail1
    exact ⟨hb.room0, hb.room1, hb.n, hb.fit, hb.fl, hb.nm, hb.key, hb.fuse0, hb.fuse1, by show (0 : Int) ≤ d.fail - 1; omega, by show d.fail - 1 ≤ _; omega⟩
   ·have hF := h.flOK hg
    have hu := h.fit
    exact hb.put_some (f := f) (g := { f with last := f.b.length }) hg (by show (used d.files : Int) + f.b.length ≤ d.room + f.b.length; omega) ⟨by simp, by simp⟩
theorem Inv.delete (h : Inv d) : Inv (delete d s).2 := by
 unfold Proofs.YtdplbgfokoajjaaGreat.delete
 split
 ·exact h
 ·split
  ·exact h.burn
  ·rename_i f hg
   exact h.burn.del (f := f) hg
theorem named_len (h : named t = true) : t.data.toList.length ≤ 16 := by
 have := named_size h
 simpa using this
theorem dget_ddel_self (n : List UInt8) (l : List (List UInt8 × Fl)) : dget n (ddel n l) = none := by rw [dget_ddel]; simp
theorem Inv.rename (h : Inv d) : Inv (rename d s t).2 := by
 unfold Proofs.YtdplbgfokoajjaaGreat.rename
 split
 ·exact h
 ·split
  ·exact h.burn
  ·rename_i hn
   simp only [Bool.not_eq_false] at hn
   split
   ·exact h.burn
   ·rename_i f hg
    have hd := h.burn.del (f := f) hg
    obtain ⟨u1, u2⟩ := used_ddel h.key hg
    have hu := h.fit; have hn64 := h.n
    have hF := h.flOK hg
    cases hg2 : dget t.data.toList (ddel s.data.toList d.files) with
    | none => exact hd.put_none (g := f) hg2 (by show (ddel s.data.toList d.files).length < 64; omega) (by show (used (ddel s.data.toList d.files) : Int) + f.b.length ≤ d.room; omega) ⟨hF.lo, hF.hi⟩ (named_len hn)
    | some g => exact hd.put_some (f := g) (g := f) hg2 (by show (used (ddel s.data.toList d.files) : Int) + f.b.length ≤ d.room + g.b.length; omega) ⟨hF.lo, hF.hi⟩
theorem Inv.write (h : Inv d) : Inv (write d s b).2 := by
 unfold Proofs.YtdplbgfokoajjaaGreat.write
 split
 ·exact h
 ·split
  ·exact h.burn
  ·rename_i hn
   simp only [Bool.not_eq_false] at hn
   split
   ·rename_i hg
    split
    ·exact h.burn
    ·split
     ·exact h.burn
     ·exact h.burn.put_none (g := ⟨b, 0⟩) hg (by show d.files.length < 64; omega) (by show (used d.files : Int) + b.length ≤ d.room; omega) ⟨by simp, by simp⟩ (named_len hn)
   ·rename_i f hg
    have hF := h.flOK hg
    split
    ·exact h.burn
    ·refine h.burn.put_some (f := f) (g := { f with b := f.b ++ b }) hg ?_ ⟨hF.lo, ?_⟩
     ·show (used d.files : Int) + (f.b ++ b).length ≤ d.room + f.b.length
      simp only [List.length_append]; omega
     ·show f.last ≤ ((f.b ++ b).length : Nat)
      have := hF.hi
      simp only [List.length_append]; omega
theorem crF_len (f : Fl) (k : Option Int) : (crF f k).b.length ≤ f.b.length := by
 unfold crF
 split <;> simp [List.length_take] <;> omega
theorem Inv.crFs (keep : List Int) : ∀ (ns : List (List UInt8)) (i : Nat) (d : Dk), Inv d → Inv { d with files := crFs keep i ns d.files }
 | [], i, d, h => h
 | n :: ns, i, d, h => by
  simp only [Proofs.YtdplbgfokoajjaaGreat.crFs]
  cases hg : dget n d.files with
  | none => exact Inv.crFs keep ns (i + 1) d h
  | some f =>
   have hF := h.flOK hg
   have hc := crF_ok hF keep[i]?
   have hl := crF_len f keep[i]?
   have hu := h.fit
   exact Inv.crFs keep ns (i + 1) { d with files := dput n (crF f keep[i]?) d.files } (h.put_some (f := f) hg (by omega) ⟨hc.lo, hc.hi⟩)
theorem Inv.crash (h : Inv d) : Inv (crash d keep) := by
 have h1 := Inv.crFs keep (names d) 0 d h
 exact ⟨h1.room0, h1.room1, h1.n, h1.fit, h1.fl, h1.nm, h1.key, by simp [Proofs.YtdplbgfokoajjaaGreat.crash], by simp [Proofs.YtdplbgfokoajjaaGreat.crash], by simp [Proofs.YtdplbgfokoajjaaGreat.crash], by simp [Proofs.YtdplbgfokoajjaaGreat.crash]⟩
structure OpV where
 what : Int
 name : ByteArray
 to : ByteArray
 b : List UInt8
 n : Int
 keep : List Int
structure OpV.OK (o : OpV) : Prop where
 name : o.name.size ≤ maxLen
 to : o.to.size ≤ maxLen
 n : o.n ≤ 9223372036854775807
 keep : ∀ k ∈ o.keep, k ≤ 9223372036854775807
 keepl : o.keep.length ≤ 9223372036854775807
 b : o.b.length ≤ 9223372036854775807
def doOp (d : Dk) (o : OpV) : Int × Dk :=
 if o.what == 3 || o.what == 4 then sync d o.name
 else if o.what == 5 then rename d o.name o.to
 else if o.what == 6 then delete d o.name
 else if o.what == 7 then (0, setFuse d o.n)
 else if o.what == 8 then (0, setFail d o.n)
 else if o.what == 9 then (0, crash d o.keep)
 else write d o.name o.b
theorem Inv.doOp {o : OpV} (h : Inv d) (ho : o.OK) : Inv (doOp d o).2 := by
 unfold Proofs.YtdplbgfokoajjaaGreat.doOp
 split
 ·exact h.sync
 split
 ·exact h.rename
 split
 ·exact h.delete
 split
 ·exact h.setFuse ho.n
 split
 ·exact h.setFail ho.n
 split
 ·exact h.crash
 exact h.write
theorem Inv.new {n : Int} (h0 : 0 ≤ n) (h1 : n ≤ 1048576) : Inv ⟨n, [], -1, 0⟩ :=
 ⟨h0, h1, by simp, by simpa [Proofs.YtdplbgfokoajjaaGreat.used] using h0, by simp, by simp, by simp, by simp, by simp, by simp, by simp⟩
end Go.Proofs.YtdplbgfokoajjaaGreat
end
section
set_option linter.unusedVariables false
set_option linter.unusedSimpArgs false
set_option maxRecDepth 20000
namespace Go.Proofs.YtdplbgfokoajjaaGreat
open Go
attribute [local simp] RF_nil RF_cons afterRF_ret nilCmp sop sGuard isCall sCallee Fr.eval Fr.get Fr.put ofConst sLoad sStore sBuiltin Fr.args bodyQ sRes oneOf sBin sInt sUn
attribute [local simp] RD_nil RD_cons noConf clear accAdd Tab.pr Tab.slot foot wid idOf refId Op.operands Call.operands sFieldAddr sNilCheck sLookup keyLit sMapSet sMapDel sLen Store.at Store.new getP setP typeAt fits evalParts sBuildSlice sFill sList sApp sAppend frzRe frz pureB pureL
attribute [local simp] dkB dkS u8s optEval sSlice sIndexAddr
def encOp (o : OpV) : PV := .agg 35 [i64 o.what, .str o.name, .str o.to, u8s o.b, i64 o.n, .lit (ints o.keep)]
section
variable {R : Re → Store → Prop} {σ : Store} {d : Dk} {s t : ByteArray} {b : List UInt8} {keep : List Int} {i j : Nat} {n : Int} {o : OpV}
theorem C_sync_at (h0 : DkAt σ i j d) (hI : Inv d) (hs : s.size ≤ maxLen) (h : R (.ret (i64 (sync d s).1)) (dkPut σ i j (sync d s).2)) : C tE 25 [.ptr i 0 0 [], .str s] σ R :=
 C_at (args := [.ptr 0 0 0 [], .str s]) h0 rfl (fun R h => C_sync hI hs h) (fun τ => rfl) h
theorem C_delete_at (h0 : DkAt σ i j d) (hI : Inv d) (hs : s.size ≤ maxLen) (h : R (.ret (i64 (delete d s).1)) (dkPut σ i j (delete d s).2)) : C tE 27 [.ptr i 0 0 [], .str s] σ R :=
 C_at (args := [.ptr 0 0 0 [], .str s]) h0 rfl (fun R h => C_delete hI hs h) (fun τ => rfl) h
theorem C_rename_at (h0 : DkAt σ i j d) (hI : Inv d) (hs : s.size ≤ maxLen) (h : R (.ret (i64 (rename d s t).1)) (dkPut σ i j (rename d s t).2)) : C tE 26 [.ptr i 0 0 [], .str s, .str t] σ R :=
 C_at (args := [.ptr 0 0 0 [], .str s, .str t]) h0 rfl (fun R h => C_rename hI hs h) (fun τ => rfl) h
theorem C_write_at (h0 : DkAt σ i j d) (hI : Inv d) (hs : s.size ≤ maxLen) (h : R (.ret (i64 (write d s b).1)) (dkPut σ i j (write d s b).2)) : C tE 30 [.ptr i 0 0 [], .str s, u8s b] σ R :=
 C_at (args := [.ptr 0 0 0 [], .str s, u8s b]) h0 rfl (fun R h => C_write hI hs h) (fun τ => rfl) h
theorem C_fuse_at (h0 : DkAt σ i j d) (h : R (.ret (.tup [])) (dkPut σ i j (setFuse d n))) : C tE 28 [.ptr i 0 0 [], i64 n] σ R :=
 C_at (args := [.ptr 0 0 0 [], i64 n]) h0 rfl (fun R h => C_fuse h) (fun τ => rfl) h
theorem C_fail_at (h0 : DkAt σ i j d) (h : R (.ret (.tup [])) (dkPut σ i j (setFail d n))) : C tE 24 [.ptr i 0 0 [], i64 n] σ R :=
 C_at (args := [.ptr 0 0 0 [], i64 n]) h0 rfl (fun R h => C_fail h) (fun τ => rfl) h
theorem C_crash_at (h0 : DkAt σ i j d) (hI : Inv d) (hk : ∀ k ∈ keep, k ≤ 9223372036854775807) (hkl : keep.length ≤ 9223372036854775807) (h : R (.ret (.tup [])) (dkPut σ i j (crash d keep))) : C tE 29 [.ptr i 0 0 [], .lit (ints keep)] σ R :=
 C_at (args := [.ptr 0 0 0 [], .lit (ints keep)]) h0 rfl (fun R h => C_crash' hI hk hkl h) (fun τ => rfl) h
theorem frz_strs (τ : Store) (l : List (List UInt8)) : frz τ 6 (.lit (strs l)) = some (.lit (strs l)) := rfl
theorem C_list_at (h0 : DkAt σ i j d) (hI : Inv d) (h : R (.ret (.lit (strs (names d)))) σ) : C tE 16 [.ptr i 0 0 []] σ R :=
 C_at0 (args := [.ptr 0 0 0 []]) h0 rfl (fun R h => C_list (by have := hI.n; omega) h) (fun τ => rfl) h
theorem C_read_at (h0 : DkAt σ i j d) (hI : Inv d) (hs : s.size ≤ maxLen) (h : R (.ret (.tup [u8s ((dget s.data.toList d.files).elim [] (·.b)), .bool (dget s.data.toList d.files).isSome])) σ) : C tE 39 [.ptr i 0 0 [], .str s] σ R :=
 C_at0 (args := [.ptr 0 0 0 [], .str s]) h0 rfl (fun R h => C_read hs (fun f hf => by have := (hI.flOK hf).sz; omega) h) (fun τ => rfl) h
theorem C_synced_at (h0 : DkAt σ i j d) (hs : s.size ≤ maxLen) (h : R (.ret (i64 ((dget s.data.toList d.files).elim 0 (·.last)))) σ) : C tE 20 [.ptr i 0 0 [], .str s] σ R :=
 C_at0 (args := [.ptr 0 0 0 [], .str s]) h0 rfl (fun R h => C_synced hs h) (fun τ => rfl) h
theorem C_do (hI : Inv d) (ho : o.OK) (h : R (.ret (i64 (doOp d o).1)) (dkS (doOp d o).2)) : C tE 8 [.ptr 0 0 0 [], encOp o] (dkS d) R := by
 refine C_new tOK ?_
 have h0 : DkAt (dkS d ++ [some (.cells 35 0 [encOp o])]) 0 1 d := ⟨by decide, rfl, rfl⟩
 unfold encOp at h0 ⊢
 unfold doOp at h
 cases h3 : o.what == 3 with
 | true =>
  refine C_bodyk tOK Tryz.func8 rfl (Nat.le_of_ble_eq_true rfl) fun K hK => ?_; simp
  repeat (first | (refine T_seqk fun K hK => ?_) | (refine T_reg tOK rfl ?_; simp [h3]) | (refine T_ret ?_; try simp) | (refine T_skip ?_; try simp) | (refine T_blockk fun K hK => ?_) | (with_reducible apply_assumption -exfalso -symm) | (rw [afterRF_ret]; simp [h3]) | (refine T_exit ?_; try simp) | (refine T_cond_t ?_ ?_; · (simp; done)) | (refine T_cond_f ?_ ?_; · (simp; done)) | (rintro _ _ (_ | _) hz9 <;> first | (simp; done) | (simp at hz9; done)) | (refine And.intro ?_ ?_) | (simp only [Post.block_ret, Post.block_exit, Post.block_normal, Post.block_pan, Post.seq_ret, Post.seq_exit, Post.seq_normal, Post.seq_pan]; try simp [h3]) | (refine T_loop (TL_round ?_)) | (refine TL_round ?_))
  refine C_sync_at (j := 1) h0 hI ho.name ?_
  simp
  repeat (first | (refine T_seqk fun K hK => ?_) | (refine T_reg tOK rfl ?_; simp [h3]) | (refine T_ret ?_; try simp) | (refine T_skip ?_; try simp) | (refine T_blockk fun K hK => ?_) | (with_reducible apply_assumption -exfalso -symm) | (rw [afterRF_ret]; simp [h3]) | (refine T_exit ?_; try simp) | (refine T_cond_t ?_ ?_; · (simp; done)) | (refine T_cond_f ?_ ?_; · (simp; done)) | (rintro _ _ (_ | _) hz9 <;> first | (simp; done) | (simp at hz9; done)) | (refine And.intro ?_ ?_) | (simp only [Post.block_ret, Post.block_exit, Post.block_normal, Post.block_pan, Post.seq_ret, Post.seq_exit, Post.seq_normal, Post.seq_pan]; try simp [h3]) | (refine T_loop (TL_round ?_)) | (refine TL_round ?_))
  ·exact .inr (dkS_all (sync d o.name).2)
  ·simpa [frzT, frzN, dkPut, dkBj, dkM,h3] using h
 | false =>
  cases h4 : o.what == 4 with
  | true =>
   refine C_bodyk tOK Tryz.func8 rfl (Nat.le_of_ble_eq_true rfl) fun K hK => ?_; simp
   repeat (first | (refine T_seqk fun K hK => ?_) | (refine T_reg tOK rfl ?_; simp [h3,h4]) | (refine T_ret ?_; try simp) | (refine T_skip ?_; try simp) | (refine T_blockk fun K hK => ?_) | (with_reducible apply_assumption -exfalso -symm) | (rw [afterRF_ret]; simp [h3,h4]) | (refine T_exit ?_; try simp) | (refine T_cond_t ?_ ?_; · (simp; done)) | (refine T_cond_f ?_ ?_; · (simp; done)) | (rintro _ _ (_ | _) hz9 <;> first | (simp; done) | (simp at hz9; done)) | (refine And.intro ?_ ?_) | (simp only [Post.block_ret, Post.block_exit, Post.block_normal, Post.block_pan, Post.seq_ret, Post.seq_exit, Post.seq_normal, Post.seq_pan]; try simp [h3,h4]) | (refine T_loop (TL_round ?_)) | (refine TL_round ?_))
   refine C_sync_at (j := 1) h0 hI ho.name ?_
   simp
   repeat (first | (refine T_seqk fun K hK => ?_) | (refine T_reg tOK rfl ?_; simp [h3,h4]) | (refine T_ret ?_; try simp) | (refine T_skip ?_; try simp) | (refine T_blockk fun K hK => ?_) | (with_reducible apply_assumption -exfalso -symm) | (rw [afterRF_ret]; simp [h3,h4]) | (refine T_exit ?_; try simp) | (refine T_cond_t ?_ ?_; · (simp; done)) | (refine T_cond_f ?_ ?_; · (simp; done)) | (rintro _ _ (_ | _) hz9 <;> first | (simp; done) | (simp at hz9; done)) | (refine And.intro ?_ ?_) | (simp only [Post.block_ret, Post.block_exit, Post.block_normal, Post.block_pan, Post.seq_ret, Post.seq_exit, Post.seq_normal, Post.seq_pan]; try simp [h3,h4]) | (refine T_loop (TL_round ?_)) | (refine TL_round ?_))
   ·exact .inr (dkS_all (sync d o.name).2)
   ·simpa [frzT, frzN, dkPut, dkBj, dkM,h3,h4] using h
  | false =>
   cases h5 : o.what == 5 with
   | true =>
    refine C_bodyk tOK Tryz.func8 rfl (Nat.le_of_ble_eq_true rfl) fun K hK => ?_; simp
    repeat (first | (refine T_seqk fun K hK => ?_) | (refine T_reg tOK rfl ?_; simp [h3,h4,h5]) | (refine T_ret ?_; try simp) | (refine T_skip ?_; try simp) | (refine T_blockk fun K hK => ?_) | (with_reducible apply_assumption -exfalso -symm) | (rw [afterRF_ret]; simp [h3,h4,h5]) | (refine T_exit ?_; try simp) | (refine T_cond_t ?_ ?_; · (simp; done)) | (refine T_cond_f ?_ ?_; · (simp; done)) | (rintro _ _ (_ | _) hz9 <;> first | (simp; done) | (simp at hz9; done)) | (refine And.intro ?_ ?_) | (simp only [Post.block_ret, Post.block_exit, Post.block_normal, Post.block_pan, Post.seq_ret, Post.seq_exit, Post.seq_normal, Post.seq_pan]; try simp [h3,h4,h5]) | (refine T_loop (TL_round ?_)) | (refine TL_round ?_))
    refine C_rename_at (j := 1) h0 hI ho.name ?_
    simp
    repeat (first | (refine T_seqk fun K hK => ?_) | (refine T_reg tOK rfl ?_; simp [h3,h4,h5]) | (refine T_ret ?_; try simp) | (refine T_skip ?_; try simp) | (refine T_blockk fun K hK => ?_) | (with_reducible apply_assumption -exfalso -symm) | (rw [afterRF_ret]; simp [h3,h4,h5]) | (refine T_exit ?_; try simp) | (refine T_cond_t ?_ ?_; · (simp; done)) | (refine T_cond_f ?_ ?_; · (simp; done)) | (rintro _ _ (_ | _) hz9 <;> first | (simp; done) | (simp at hz9; done)) | (refine And.intro ?_ ?_) | (simp only [Post.block_ret, Post.block_exit, Post.block_normal, Post.block_pan, Post.seq_ret, Post.seq_exit, Post.seq_normal, Post.seq_pan]; try simp [h3,h4,h5]) | (refine T_loop (TL_round ?_)) | (refine TL_round ?_))
    ·exact .inr (dkS_all (rename d o.name o.to).2)
    ·simpa [frzT, frzN, dkPut, dkBj, dkM,h3,h4,h5] using h
   | false =>
    cases h6 : o.what == 6 with
    | true =>
     refine C_bodyk tOK Tryz.func8 rfl (Nat.le_of_ble_eq_true rfl) fun K hK => ?_; simp
     repeat (first | (refine T_seqk fun K hK => ?_) | (refine T_reg tOK rfl ?_; simp [h3,h4,h5,h6]) | (refine T_ret ?_; try simp) | (refine T_skip ?_; try simp) | (refine T_blockk fun K hK => ?_) | (with_reducible apply_assumption -exfalso -symm) | (rw [afterRF_ret]; simp [h3,h4,h5,h6]) | (refine T_exit ?_; try simp) | (refine T_cond_t ?_ ?_; · (simp; done)) | (refine T_cond_f ?_ ?_; · (simp; done)) | (rintro _ _ (_ | _) hz9 <;> first | (simp; done) | (simp at hz9; done)) | (refine And.intro ?_ ?_) | (simp only [Post.block_ret, Post.block_exit, Post.block_normal, Post.block_pan, Post.seq_ret, Post.seq_exit, Post.seq_normal, Post.seq_pan]; try simp [h3,h4,h5,h6]) | (refine T_loop (TL_round ?_)) | (refine TL_round ?_))
     refine C_delete_at (j := 1) h0 hI ho.name ?_
     simp
     repeat (first | (refine T_seqk fun K hK => ?_) | (refine T_reg tOK rfl ?_; simp [h3,h4,h5,h6]) | (refine T_ret ?_; try simp) | (refine T_skip ?_; try simp) | (refine T_blockk fun K hK => ?_) | (with_reducible apply_assumption -exfalso -symm) | (rw [afterRF_ret]; simp [h3,h4,h5,h6]) | (refine T_exit ?_; try simp) | (refine T_cond_t ?_ ?_; · (simp; done)) | (refine T_cond_f ?_ ?_; · (simp; done)) | (rintro _ _ (_ | _) hz9 <;> first | (simp; done) | (simp at hz9; done)) | (refine And.intro ?_ ?_) | (simp only [Post.block_ret, Post.block_exit, Post.block_normal, Post.block_pan, Post.seq_ret, Post.seq_exit, Post.seq_normal, Post.seq_pan]; try simp [h3,h4,h5,h6]) | (refine T_loop (TL_round ?_)) | (refine TL_round ?_))
     ·exact .inr (dkS_all (delete d o.name).2)
     ·simpa [frzT, frzN, dkPut, dkBj, dkM,h3,h4,h5,h6] using h
    | false =>
     cases h7 : o.what == 7 with
     | true =>
      refine C_bodyk tOK Tryz.func8 rfl (Nat.le_of_ble_eq_true rfl) fun K hK => ?_; simp
      repeat (first | (refine T_seqk fun K hK => ?_) | (refine T_reg tOK rfl ?_; simp [h3,h4,h5,h6,h7]) | (refine T_ret ?_; try simp) | (refine T_skip ?_; try simp) | (refine T_blockk fun K hK => ?_) | (with_reducible apply_assumption -exfalso -symm) | (rw [afterRF_ret]; simp [h3,h4,h5,h6,h7]) | (refine T_exit ?_; try simp) | (refine T_cond_t ?_ ?_; · (simp; done)) | (refine T_cond_f ?_ ?_; · (simp; done)) | (rintro _ _ (_ | _) hz9 <;> first | (simp; done) | (simp at hz9; done)) | (refine And.intro ?_ ?_) | (simp only [Post.block_ret, Post.block_exit, Post.block_normal, Post.block_pan, Post.seq_ret, Post.seq_exit, Post.seq_normal, Post.seq_pan]; try simp [h3,h4,h5,h6,h7]) | (refine T_loop (TL_round ?_)) | (refine TL_round ?_))
      refine C_fuse_at (j := 1) h0 ?_
      simp
      repeat (first | (refine T_seqk fun K hK => ?_) | (refine T_reg tOK rfl ?_; simp [h3,h4,h5,h6,h7]) | (refine T_ret ?_; try simp) | (refine T_skip ?_; try simp) | (refine T_blockk fun K hK => ?_) | (with_reducible apply_assumption -exfalso -symm) | (rw [afterRF_ret]; simp [h3,h4,h5,h6,h7]) | (refine T_exit ?_; try simp) | (refine T_cond_t ?_ ?_; · (simp; done)) | (refine T_cond_f ?_ ?_; · (simp; done)) | (rintro _ _ (_ | _) hz9 <;> first | (simp; done) | (simp at hz9; done)) | (refine And.intro ?_ ?_) | (simp only [Post.block_ret, Post.block_exit, Post.block_normal, Post.block_pan, Post.seq_ret, Post.seq_exit, Post.seq_normal, Post.seq_pan]; try simp [h3,h4,h5,h6,h7]) | (refine T_loop (TL_round ?_)) | (refine TL_round ?_))
      ·exact .inr (dkS_all (setFuse d o.n))
      ·simpa [frzT, frzN, dkPut, dkBj, dkM,h3,h4,h5,h6,h7] using h
     | false =>
      cases h8 : o.what == 8 with
      | true =>
       refine C_bodyk tOK Tryz.func8 rfl (Nat.le_of_ble_eq_true rfl) fun K hK => ?_; simp
       repeat (first | (refine T_seqk fun K hK => ?_) | (refine T_reg tOK rfl ?_; simp [h3,h4,h5,h6,h7,h8]) | (refine T_ret ?_; try simp) | (refine T_skip ?_; try simp) | (refine T_blockk fun K hK => ?_) | (with_reducible apply_assumption -exfalso -symm) | (rw [afterRF_ret]; simp [h3,h4,h5,h6,h7,h8]) | (refine T_exit ?_; try simp) | (refine T_cond_t ?_ ?_; · (simp; done)) | (refine T_cond_f ?_ ?_; · (simp; done)) | (rintro _ _ (_ | _) hz9 <;> first | (simp; done) | (simp at hz9; done)) | (refine And.intro ?_ ?_) | (simp only [Post.block_ret, Post.block_exit, Post.block_normal, Post.block_pan, Post.seq_ret, Post.seq_exit, Post.seq_normal, Post.seq_pan]; try simp [h3,h4,h5,h6,h7,h8]) | (refine T_loop (TL_round ?_)) | (refine TL_round ?_))
       refine C_fail_at (j := 1) h0 ?_
       simp
       repeat (first | (refine T_seqk fun K hK => ?_) | (refine T_reg tOK rfl ?_; simp [h3,h4,h5,h6,h7,h8]) | (refine T_ret ?_; try simp) | (refine T_skip ?_; try simp) | (refine T_blockk fun K hK => ?_) | (with_reducible apply_assumption -exfalso -symm) | (rw [afterRF_ret]; simp [h3,h4,h5,h6,h7,h8]) | (refine T_exit ?_; try simp) | (refine T_cond_t ?_ ?_; · (simp; done)) | (refine T_cond_f ?_ ?_; · (simp; done)) | (rintro _ _ (_ | _) hz9 <;> first | (simp; done) | (simp at hz9; done)) | (refine And.intro ?_ ?_) | (simp only [Post.block_ret, Post.block_exit, Post.block_normal, Post.block_pan, Post.seq_ret, Post.seq_exit, Post.seq_normal, Post.seq_pan]; try simp [h3,h4,h5,h6,h7,h8]) | (refine T_loop (TL_round ?_)) | (refine TL_round ?_))
       ·exact .inr (dkS_all (setFail d o.n))
       ·simpa [frzT, frzN, dkPut, dkBj, dkM,h3,h4,h5,h6,h7,h8] using h
      | false =>
       cases h9 : o.what == 9 with
       | true =>
        refine C_bodyk tOK Tryz.func8 rfl (Nat.le_of_ble_eq_true rfl) fun K hK => ?_; simp
        repeat (first | (refine T_seqk fun K hK => ?_) | (refine T_reg tOK rfl ?_; simp [h3,h4,h5,h6,h7,h8,h9]) | (refine T_ret ?_; try simp) | (refine T_skip ?_; try simp) | (refine T_blockk fun K hK => ?_) | (with_reducible apply_assumption -exfalso -symm) | (rw [afterRF_ret]; simp [h3,h4,h5,h6,h7,h8,h9]) | (refine T_exit ?_; try simp) | (refine T_cond_t ?_ ?_; · (simp; done)) | (refine T_cond_f ?_ ?_; · (simp; done)) | (rintro _ _ (_ | _) hz9 <;> first | (simp; done) | (simp at hz9; done)) | (refine And.intro ?_ ?_) | (simp only [Post.block_ret, Post.block_exit, Post.block_normal, Post.block_pan, Post.seq_ret, Post.seq_exit, Post.seq_normal, Post.seq_pan]; try simp [h3,h4,h5,h6,h7,h8,h9]) | (refine T_loop (TL_round ?_)) | (refine TL_round ?_))
        refine C_crash_at (j := 1) h0 hI ho.keep ho.keepl ?_
        simp
        repeat (first | (refine T_seqk fun K hK => ?_) | (refine T_reg tOK rfl ?_; simp [h3,h4,h5,h6,h7,h8,h9]) | (refine T_ret ?_; try simp) | (refine T_skip ?_; try simp) | (refine T_blockk fun K hK => ?_) | (with_reducible apply_assumption -exfalso -symm) | (rw [afterRF_ret]; simp [h3,h4,h5,h6,h7,h8,h9]) | (refine T_exit ?_; try simp) | (refine T_cond_t ?_ ?_; · (simp; done)) | (refine T_cond_f ?_ ?_; · (simp; done)) | (rintro _ _ (_ | _) hz9 <;> first | (simp; done) | (simp at hz9; done)) | (refine And.intro ?_ ?_) | (simp only [Post.block_ret, Post.block_exit, Post.block_normal, Post.block_pan, Post.seq_ret, Post.seq_exit, Post.seq_normal, Post.seq_pan]; try simp [h3,h4,h5,h6,h7,h8,h9]) | (refine T_loop (TL_round ?_)) | (refine TL_round ?_))
        ·exact .inr (dkS_all (crash d o.keep))
        ·simpa [frzT, frzN, dkPut, dkBj, dkM,h3,h4,h5,h6,h7,h8,h9] using h
       | false =>
        refine C_bodyk tOK Tryz.func8 rfl (Nat.le_of_ble_eq_true rfl) fun K hK => ?_; simp
        repeat (first | (refine T_seqk fun K hK => ?_) | (refine T_reg tOK rfl ?_; simp [h3,h4,h5,h6,h7,h8,h9]) | (refine T_ret ?_; try simp) | (refine T_skip ?_; try simp) | (refine T_blockk fun K hK => ?_) | (with_reducible apply_assumption -exfalso -symm) | (rw [afterRF_ret]; simp [h3,h4,h5,h6,h7,h8,h9]) | (refine T_exit ?_; try simp) | (refine T_cond_t ?_ ?_; · (simp; done)) | (refine T_cond_f ?_ ?_; · (simp; done)) | (rintro _ _ (_ | _) hz9 <;> first | (simp; done) | (simp at hz9; done)) | (refine And.intro ?_ ?_) | (simp only [Post.block_ret, Post.block_exit, Post.block_normal, Post.block_pan, Post.seq_ret, Post.seq_exit, Post.seq_normal, Post.seq_pan]; try simp [h3,h4,h5,h6,h7,h8,h9]) | (refine T_loop (TL_round ?_)) | (refine TL_round ?_))
        refine C_write_at (j := 1) h0 hI ho.name ?_
        simp
        repeat (first | (refine T_seqk fun K hK => ?_) | (refine T_reg tOK rfl ?_; simp [h3,h4,h5,h6,h7,h8,h9]) | (refine T_ret ?_; try simp) | (refine T_skip ?_; try simp) | (refine T_blockk fun K hK => ?_) | (with_reducible apply_assumption -exfalso -symm) | (rw [afterRF_ret]; simp [h3,h4,h5,h6,h7,h8,h9]) | (refine T_exit ?_; try simp) | (refine T_cond_t ?_ ?_; · (simp; done)) | (refine T_cond_f ?_ ?_; · (simp; done)) | (rintro _ _ (_ | _) hz9 <;> first | (simp; done) | (simp at hz9; done)) | (refine And.intro ?_ ?_) | (simp only [Post.block_ret, Post.block_exit, Post.block_normal, Post.block_pan, Post.seq_ret, Post.seq_exit, Post.seq_normal, Post.seq_pan]; try simp [h3,h4,h5,h6,h7,h8,h9]) | (refine T_loop (TL_round ?_)) | (refine TL_round ?_))
        ·exact .inr (dkS_all (write d o.name o.b).2)
        ·simpa [frzT, frzN, dkPut, dkBj, dkM,h3,h4,h5,h6,h7,h8,h9] using h
end
section
variable {R : Re → Store → Prop} {σ : Store} {d : Dk} {i j : Nat} {n : Int} {o : OpV}
theorem C_do_at (h0 : DkAt σ i j d) (hI : Inv d) (ho : o.OK) (h : R (.ret (i64 (doOp d o).1)) (dkPut σ i j (doOp d o).2)) : C tE 8 [.ptr i 0 0 [], encOp o] σ R :=
 C_at (args := [.ptr 0 0 0 [], encOp o]) h0 rfl (fun R h => C_do hI ho h) (fun τ => rfl) h
theorem C_new_none (h0 : (decide (n < 0) || decide (1048576 < n)) = true) (h : R (.ret .nilp) σ) : C tE 5 [i64 n] σ R := by
 cases h1 : decide (n < 0) with
 | true =>
  refine C_bodyk tOK Tryz.func5 rfl (Nat.le_of_ble_eq_true rfl) fun K hK => ?_; simp
  repeat (first | (refine T_seqk fun K hK => ?_) | (refine T_reg tOK rfl ?_; simp [h1]) | (refine T_ret ?_; try simp) | (refine T_skip ?_; try simp) | (refine T_blockk fun K hK => ?_) | (with_reducible apply_assumption -exfalso -symm) | (rw [afterRF_ret]; simp [h1]) | (refine T_exit ?_; try simp) | (refine T_cond_t ?_ ?_; · (simp; done)) | (refine T_cond_f ?_ ?_; · (simp; done)) | (rintro _ _ (_ | _) hz9 <;> first | (simp; done) | (simp at hz9; done)) | (refine And.intro ?_ ?_) | (simp only [Post.block_ret, Post.block_exit, Post.block_normal, Post.block_pan, Post.seq_ret, Post.seq_exit, Post.seq_normal, Post.seq_pan]; try simp [h1]) | (refine T_loop (TL_round ?_)) | (refine TL_round ?_))
 | false =>
  have h2 : decide (1048576 < n) = true := by simpa [h1] using h0
  refine C_bodyk tOK Tryz.func5 rfl (Nat.le_of_ble_eq_true rfl) fun K hK => ?_; simp
  repeat (first | (refine T_seqk fun K hK => ?_) | (refine T_reg tOK rfl ?_; simp [h1,h2]) | (refine T_ret ?_; try simp) | (refine T_skip ?_; try simp) | (refine T_blockk fun K hK => ?_) | (with_reducible apply_assumption -exfalso -symm) | (rw [afterRF_ret]; simp [h1,h2]) | (refine T_exit ?_; try simp) | (refine T_cond_t ?_ ?_; · (simp; done)) | (refine T_cond_f ?_ ?_; · (simp; done)) | (rintro _ _ (_ | _) hz9 <;> first | (simp; done) | (simp at hz9; done)) | (refine And.intro ?_ ?_) | (simp only [Post.block_ret, Post.block_exit, Post.block_normal, Post.block_pan, Post.seq_ret, Post.seq_exit, Post.seq_normal, Post.seq_pan]; try simp [h1,h2]) | (refine T_loop (TL_round ?_)) | (refine TL_round ?_))
def bulk (o : OpV) : Int := min (o.name.size : Int) 9000 + min (o.to.size : Int) 9000 + min (o.b.length : Int) 9000 + min (o.keep.length : Int) 9000
def gsum : List OpV → Int → Int
 | [], n => n
 | o :: r, n => if n < 20000 then gsum r (n + bulk o) else n
def great (l : List OpV) : Bool := decide (20000 ≤ gsum l l.length) || decide (300 < (l.length : Int))
def encOps (l : List OpV) : List PV := l.map encOp
theorem bulk_nn (o : OpV) : 0 ≤ bulk o ∧ bulk o ≤ 36000 := by unfold bulk; omega
set_option maxHeartbeats 4000000 in
theorem C_great {l : List OpV} (hl : l.length ≤ 9223372036854775807) (h : R (.ret (.bool (great l))) σ) : C tE 7 [.lit (encOps l)] σ R := by
 have hll : (encOps l).length = l.length := by simp [encOps]
 refine C_pure tOK rfl ?_
 refine C_bodyk tOK Tryz.func7 rfl (Nat.le_of_ble_eq_true rfl) fun K hK => ?_; simp
 repeat (first | (refine T_seqk fun K hK => ?_) | (refine T_reg tOK rfl ?_; simp [hll]) | (refine T_ret ?_; try simp) | (refine T_skip ?_; try simp) | (refine T_blockk fun K hK => ?_) | (with_reducible apply_assumption -exfalso -symm) | (rw [afterRF_ret]; simp [hll]) | (refine T_exit ?_; try simp) | (refine T_cond_t ?_ ?_; · (simp; done)) | (refine T_cond_f ?_ ?_; · (simp; done)) | (rintro _ _ (_ | _) hz9 <;> first | (simp; done) | (simp at hz9; done)) | (refine And.intro ?_ ?_) | (simp only [Post.block_ret, Post.block_exit, Post.block_normal, Post.block_pan, Post.seq_ret, Post.seq_exit, Post.seq_normal, Post.seq_pan]; try simp [hll]) | (refine T_draw tOK tmix [([], 0), ([], 1), ([], 2), ([1, 2], 3), ([1, 2, 3], 4), ([1, 2, 3, 4], 5), ([1, 2, 3, 4, 5], 6), ([1, 2, 3, 4, 5, 6], 7), ([0, 1, 2, 3, 4, 5, 6, 7], 8), ([], 9), ([], 10), ([9, 10], 11), ([9, 10, 11], 12), ([9, 10, 11, 12], 13), ([9, 10, 11, 12, 13], 14), ([9, 10, 11, 12, 13, 14], 15), ([0, 1, 2, 3, 4, 5, 6, 7, 8, 9, 10, 11, 12, 13, 14, 15], 16), ([], 17), ([], 18), ([17, 18], 19), ([17, 18, 19], 20), ([17, 18, 19, 20], 21), ([17, 18, 19, 20, 21], 22), ([17, 18, 19, 20, 21, 22], 23), ([0, 1, 2, 3, 4, 5, 6, 7, 8, 9, 10, 11, 12, 13, 14, 15, 16, 17, 18, 19, 20, 21, 22, 23], 24), ([], 25), ([], 26), ([25, 26], 27), ([25, 26, 27], 28), ([25, 26, 27, 28], 29), ([25, 26, 27, 28, 29], 30), ([25, 26, 27, 28, 29, 30], 31), ([0, 1, 2, 3, 4, 5, 6, 7, 8, 9, 10, 11, 12, 13, 14, 15, 16, 17, 18, 19, 20, 21, 22, 23, 24, 25, 26, 27, 28, 29, 30, 31], 32), ([0, 1, 2, 3, 4, 5, 6, 7, 8, 9, 10, 11, 12, 13, 14, 15, 16, 17, 18, 19, 20, 21, 22, 23, 24, 25, 26, 27, 28, 29, 30, 31, 32], 33)] 32 (by decide +kernel) ?_; simp [hll]))
 refine T_loop ?_
 refine TL_keep [0, 3, 4] ?_
 simp [Fr.keep]
 refine (?key : ∀ (r : List OpV) (k : Nat) (n : Int), l.drop k = r → 0 ≤ n → n ≤ 9223372036854775807 → gsum r n = gsum l l.length →
  TL tE _ _ _ _ [(0, .lit (encOps l)), (3, i64 n), (4, i64 k)] []) l 0 l.length rfl (by omega) (by omega) rfl
 intro r
 induction r with
 | nil =>
  intro k n hdrop hn0 hn1 hg
  have hk0 : decide (k < l.length) = false := by
   have := List.drop_eq_nil_iff.1 hdrop
   rw [decide_eq_false_iff_not]; omega
  have hg : n = gsum l l.length := hg
  unfold great at h
  rw [← hg] at h
  cases hq : decide (20000 ≤ n) with
  | true =>
   have hq' : 20000 ≤ n := by simpa using hq
   rw [hq] at h
   refine TL_round ?_
   repeat (first | (refine T_seqk fun K hK => ?_) | (refine T_reg tOK rfl ?_; simp [hk0,hll,hq']) | (refine T_ret ?_; try simp) | (refine T_skip ?_; try simp) | (refine T_blockk fun K hK => ?_) | (with_reducible apply_assumption -exfalso -symm) | (rw [afterRF_ret]; simp [hk0,hll,hq']) | (refine T_exit ?_; try simp) | (refine T_cond_t ?_ ?_; · (simp; done)) | (refine T_cond_f ?_ ?_; · (simp; done)) | (rintro _ _ (_ | _) hz9 <;> first | (simp; done) | (simp at hz9; done)) | (refine And.intro ?_ ?_) | (simp only [Post.block_ret, Post.block_exit, Post.block_normal, Post.block_pan, Post.seq_ret, Post.seq_exit, Post.seq_normal, Post.seq_pan]; try simp [hk0,hll,hq']) | (refine T_draw tOK tmix [([], 0), ([], 1), ([], 2), ([1, 2], 3), ([1, 2, 3], 4), ([1, 2, 3, 4], 5), ([1, 2, 3, 4, 5], 6), ([1, 2, 3, 4, 5, 6], 7), ([0, 1, 2, 3, 4, 5, 6, 7], 8), ([], 9), ([], 10), ([9, 10], 11), ([9, 10, 11], 12), ([9, 10, 11, 12], 13), ([9, 10, 11, 12, 13], 14), ([9, 10, 11, 12, 13, 14], 15), ([0, 1, 2, 3, 4, 5, 6, 7, 8, 9, 10, 11, 12, 13, 14, 15], 16), ([], 17), ([], 18), ([17, 18], 19), ([17, 18, 19], 20), ([17, 18, 19, 20], 21), ([17, 18, 19, 20, 21], 22), ([17, 18, 19, 20, 21, 22], 23), ([0, 1, 2, 3, 4, 5, 6, 7, 8, 9, 10, 11, 12, 13, 14, 15, 16, 17, 18, 19, 20, 21, 22, 23], 24), ([], 25), ([], 26), ([25, 26], 27), ([25, 26, 27], 28), ([25, 26, 27, 28], 29), ([25, 26, 27, 28, 29], 30), ([25, 26, 27, 28, 29, 30], 31), ([0, 1, 2, 3, 4, 5, 6, 7, 8, 9, 10, 11, 12, 13, 14, 15, 16, 17, 18, 19, 20, 21, 22, 23, 24, 25, 26, 27, 28, 29, 30, 31], 32), ([0, 1, 2, 3, 4, 5, 6, 7, 8, 9, 10, 11, 12, 13, 14, 15, 16, 17, 18, 19, 20, 21, 22, 23, 24, 25, 26, 27, 28, 29, 30, 31, 32], 33)] 32 (by decide +kernel) ?_; simp [hk0,hll,hq']))
  | false =>
   have hq' : (20000 ≤ n) = False := by simpa using hq
   rw [hq] at h
   refine TL_round ?_
   repeat (first | (refine T_seqk fun K hK => ?_) | (refine T_reg tOK rfl ?_; simp [hk0,hll,hq']) | (refine T_ret ?_; try simp) | (refine T_skip ?_; try simp) | (refine T_blockk fun K hK => ?_) | (with_reducible apply_assumption -exfalso -symm) | (rw [afterRF_ret]; simp [hk0,hll,hq']) | (refine T_exit ?_; try simp) | (refine T_cond_t ?_ ?_; · (simp; done)) | (refine T_cond_f ?_ ?_; · (simp; done)) | (rintro _ _ (_ | _) hz9 <;> first | (simp; done) | (simp at hz9; done)) | (refine And.intro ?_ ?_) | (simp only [Post.block_ret, Post.block_exit, Post.block_normal, Post.block_pan, Post.seq_ret, Post.seq_exit, Post.seq_normal, Post.seq_pan]; try simp [hk0,hll,hq']) | (refine T_draw tOK tmix [([], 0), ([], 1), ([], 2), ([1, 2], 3), ([1, 2, 3], 4), ([1, 2, 3, 4], 5), ([1, 2, 3, 4, 5], 6), ([1, 2, 3, 4, 5, 6], 7), ([0, 1, 2, 3, 4, 5, 6, 7], 8), ([], 9), ([], 10), ([9, 10], 11), ([9, 10, 11], 12), ([9, 10, 11, 12], 13), ([9, 10, 11, 12, 13], 14), ([9, 10, 11, 12, 13, 14], 15), ([0, 1, 2, 3, 4, 5, 6, 7, 8, 9, 10, 11, 12, 13, 14, 15], 16), ([], 17), ([], 18), ([17, 18], 19), ([17, 18, 19], 20), ([17, 18, 19, 20], 21), ([17, 18, 19, 20, 21], 22), ([17, 18, 19, 20, 21, 22], 23), ([0, 1, 2, 3, 4, 5, 6, 7, 8, 9, 10, 11, 12, 13, 14, 15, 16, 17, 18, 19, 20, 21, 22, 23], 24), ([], 25), ([], 26), ([25, 26], 27), ([25, 26, 27], 28), ([25, 26, 27, 28], 29), ([25, 26, 27, 28, 29], 30), ([25, 26, 27, 28, 29, 30], 31), ([0, 1, 2, 3, 4, 5, 6, 7, 8, 9, 10, 11, 12, 13, 14, 15, 16, 17, 18, 19, 20, 21, 22, 23, 24, 25, 26, 27, 28, 29, 30, 31], 32), ([0, 1, 2, 3, 4, 5, 6, 7, 8, 9, 10, 11, 12, 13, 14, 15, 16, 17, 18, 19, 20, 21, 22, 23, 24, 25, 26, 27, 28, 29, 30, 31, 32], 33)] 32 (by decide +kernel) ?_; simp [hk0,hll,hq']))
 | cons o r ih =>
  intro k n hdrop hn0 hn1 hg
  simp only [gsum] at hg
  by_cases hn : n < 20000
  ·rw [if_pos hn] at hg
   have hkl : k < l.length := by
    rcases Nat.lt_or_ge k l.length with h | h
    ·exact h
    ·rw [List.drop_eq_nil_iff.2 h] at hdrop; simp at hdrop
   have hdrop' : l.drop (k + 1) = r := by
    have := congrArg (List.drop 1) hdrop
    simpa [List.drop_drop] using this
   have hlk : l[k]? = some o := by
    have := List.getElem?_drop (xs := l) (i := k) (j := 0)
    rw [hdrop] at this; simpa using this.symm
   have hek : (encOps l)[k]? = some (.agg 35 [i64 o.what, .str o.name, .str o.to, .lit (u8l o.b), i64 o.n, .lit (ints o.keep)]) := by simp [encOps, hlk, encOp]
   have hk0 : decide (k < l.length) = true := by simpa using hkl
   have hnd : decide (n < 20000) = true := by simpa using hn
   have hwk : IntKind.i64.wrap ((k : Int) + 1) = ((k + 1 : Nat) : Int) := by rw [IntWalk.i64_in _ (by omega)]; omega
   have hbl : (u8l o.b).length = o.b.length := by simp [u8l]
   have hil : (ints o.keep).length = o.keep.length := by simp [ints]
   have w1 : IntKind.i64.wrap (n + min (o.name.size : Int) 9000) = n + min (o.name.size : Int) 9000 := IntWalk.i64_in _ (by omega)
   have w2 : IntKind.i64.wrap (n + min (o.name.size : Int) 9000 + min (o.to.size : Int) 9000) = n + min (o.name.size : Int) 9000 + min (o.to.size : Int) 9000 := IntWalk.i64_in _ (by omega)
   have w3 : IntKind.i64.wrap (n + min (o.name.size : Int) 9000 + min (o.to.size : Int) 9000 + min (o.b.length : Int) 9000) = n + min (o.name.size : Int) 9000 + min (o.to.size : Int) 9000 + min (o.b.length : Int) 9000 := IntWalk.i64_in _ (by omega)
   have w4 : IntKind.i64.wrap (n + min (o.name.size : Int) 9000 + min (o.to.size : Int) 9000 + min (o.b.length : Int) 9000 + min (o.keep.length : Int) 9000) = n + min (o.name.size : Int) 9000 + min (o.to.size : Int) 9000 + min (o.b.length : Int) 9000 + min (o.keep.length : Int) 9000 := IntWalk.i64_in _ (by omega)
   have hb := bulk_nn o
   have hsum : n + min (o.name.size : Int) 9000 + min (o.to.size : Int) 9000 + min (o.b.length : Int) 9000 + min (o.keep.length : Int) 9000 = n + bulk o := by unfold bulk; omega
   refine TL_round ?_
   repeat (first | (refine T_seqk fun K hK => ?_) | (refine T_reg tOK rfl ?_; simp [hk0,hnd,hn,hll,hek,hwk,hbl,hil,w1,w2,w3,w4]) | (refine T_ret ?_; try simp) | (refine T_skip ?_; try simp) | (refine T_blockk fun K hK => ?_) | (with_reducible apply_assumption -exfalso -symm) | (rw [afterRF_ret]; simp [hk0,hnd,hn,hll,hek,hwk,hbl,hil,w1,w2,w3,w4]) | (refine T_exit ?_; try simp) | (refine T_cond_t ?_ ?_; · (simp; done)) | (refine T_cond_f ?_ ?_; · (simp; done)) | (rintro _ _ (_ | _) hz9 <;> first | (simp; done) | (simp at hz9; done)) | (refine And.intro ?_ ?_) | (simp only [Post.block_ret, Post.block_exit, Post.block_normal, Post.block_pan, Post.seq_ret, Post.seq_exit, Post.seq_normal, Post.seq_pan]; try simp [hk0,hnd,hn,hll,hek,hwk,hbl,hil,w1,w2,w3,w4]) | (refine T_draw tOK tmix [([], 0), ([], 1), ([], 2), ([1, 2], 3), ([1, 2, 3], 4), ([1, 2, 3, 4], 5), ([1, 2, 3, 4, 5], 6), ([1, 2, 3, 4, 5, 6], 7), ([0, 1, 2, 3, 4, 5, 6, 7], 8), ([], 9), ([], 10), ([9, 10], 11), ([9, 10, 11], 12), ([9, 10, 11, 12], 13), ([9, 10, 11, 12, 13], 14), ([9, 10, 11, 12, 13, 14], 15), ([0, 1, 2, 3, 4, 5, 6, 7, 8, 9, 10, 11, 12, 13, 14, 15], 16), ([], 17), ([], 18), ([17, 18], 19), ([17, 18, 19], 20), ([17, 18, 19, 20], 21), ([17, 18, 19, 20, 21], 22), ([17, 18, 19, 20, 21, 22], 23), ([0, 1, 2, 3, 4, 5, 6, 7, 8, 9, 10, 11, 12, 13, 14, 15, 16, 17, 18, 19, 20, 21, 22, 23], 24), ([], 25), ([], 26), ([25, 26], 27), ([25, 26, 27], 28), ([25, 26, 27, 28], 29), ([25, 26, 27, 28, 29], 30), ([25, 26, 27, 28, 29, 30], 31), ([0, 1, 2, 3, 4, 5, 6, 7, 8, 9, 10, 11, 12, 13, 14, 15, 16, 17, 18, 19, 20, 21, 22, 23, 24, 25, 26, 27, 28, 29, 30, 31], 32), ([0, 1, 2, 3, 4, 5, 6, 7, 8, 9, 10, 11, 12, 13, 14, 15, 16, 17, 18, 19, 20, 21, 22, 23, 24, 25, 26, 27, 28, 29, 30, 31, 32], 33)] 32 (by decide +kernel) ?_; simp [hk0,hnd,hn,hll,hek,hwk,hbl,hil,w1,w2,w3,w4]))
   rw [hsum]
   refine TL_fall 0 [0, 3, 4] (Nat.le_refl _) rfl rfl rfl rfl (ih (k + 1) _ hdrop' (by omega) (by omega) hg)
  ·rw [if_neg hn] at hg
   unfold great at h
   rw [← hg] at h
   have hq' : 20000 ≤ n := by omega
   have hq : decide (20000 ≤ n) = true := by simpa using hq'
   have hk0 : decide (n < 20000) = false := by simpa using hq'
   have hk1 : (n < 20000) = False := by simpa using hq'
   clear hn
   rw [hq] at h
   cases hkk : decide (k < l.length) with
   | true =>
    refine TL_round ?_
    repeat (first | (refine T_seqk fun K hK => ?_) | (refine T_reg tOK rfl ?_; simp [hkk,hk0,hk1,hll,hq']) | (refine T_ret ?_; try simp) | (refine T_skip ?_; try simp) | (refine T_blockk fun K hK => ?_) | (with_reducible apply_assumption -exfalso -symm) | (rw [afterRF_ret]; simp [hkk,hk0,hk1,hll,hq']) | (refine T_exit ?_; try simp) | (refine T_cond_t ?_ ?_; · (simp; done)) | (refine T_cond_f ?_ ?_; · (simp; done)) | (rintro _ _ (_ | _) hz9 <;> first | (simp; done) | (simp at hz9; done)) | (refine And.intro ?_ ?_) | (simp only [Post.block_ret, Post.block_exit, Post.block_normal, Post.block_pan, Post.seq_ret, Post.seq_exit, Post.seq_normal, Post.seq_pan]; try simp [hkk,hk0,hk1,hll,hq']) | (refine T_draw tOK tmix [([], 0), ([], 1), ([], 2), ([1, 2], 3), ([1, 2, 3], 4), ([1, 2, 3, 4], 5), ([1, 2, 3, 4, 5], 6), ([1, 2, 3, 4, 5, 6], 7), ([0, 1, 2, 3, 4, 5, 6, 7], 8), ([], 9), ([], 10), ([9, 10], 11), ([9, 10, 11], 12), ([9, 10, 11, 12], 13), ([9, 10, 11, 12, 13], 14), ([9, 10, 11, 12, 13, 14], 15), ([0, 1, 2, 3, 4, 5, 6, 7, 8, 9, 10, 11, 12, 13, 14, 15], 16), ([], 17), ([], 18), ([17, 18], 19), ([17, 18, 19], 20), ([17, 18, 19, 20], 21), ([17, 18, 19, 20, 21], 22), ([17, 18, 19, 20, 21, 22], 23), ([0, 1, 2, 3, 4, 5, 6, 7, 8, 9, 10, 11, 12, 13, 14, 15, 16, 17, 18, 19, 20, 21, 22, 23], 24), ([], 25), ([], 26), ([25, 26], 27), ([25, 26, 27], 28), ([25, 26, 27, 28], 29), ([25, 26, 27, 28, 29], 30), ([25, 26, 27, 28, 29, 30], 31), ([0, 1, 2, 3, 4, 5, 6, 7, 8, 9, 10, 11, 12, 13, 14, 15, 16, 17, 18, 19, 20, 21, 22, 23, 24, 25, 26, 27, 28, 29, 30, 31], 32), ([0, 1, 2, 3, 4, 5, 6, 7, 8, 9, 10, 11, 12, 13, 14, 15, 16, 17, 18, 19, 20, 21, 22, 23, 24, 25, 26, 27, 28, 29, 30, 31, 32], 33)] 32 (by decide +kernel) ?_; simp [hkk,hk0,hk1,hll,hq']))
   | false =>
    refine TL_round ?_
    repeat (first | (refine T_seqk fun K hK => ?_) | (refine T_reg tOK rfl ?_; simp [hkk,hk0,hk1,hll,hq']) | (refine T_ret ?_; try simp) | (refine T_skip ?_; try simp) | (refine T_blockk fun K hK => ?_) | (with_reducible apply_assumption -exfalso -symm) | (rw [afterRF_ret]; simp [hkk,hk0,hk1,hll,hq']) | (refine T_exit ?_; try simp) | (refine T_cond_t ?_ ?_; · (simp; done)) | (refine T_cond_f ?_ ?_; · (simp; done)) | (rintro _ _ (_ | _) hz9 <;> first | (simp; done) | (simp at hz9; done)) | (refine And.intro ?_ ?_) | (simp only [Post.block_ret, Post.block_exit, Post.block_normal, Post.block_pan, Post.seq_ret, Post.seq_exit, Post.seq_normal, Post.seq_pan]; try simp [hkk,hk0,hk1,hll,hq']) | (refine T_draw tOK tmix [([], 0), ([], 1), ([], 2), ([1, 2], 3), ([1, 2, 3], 4), ([1, 2, 3, 4], 5), ([1, 2, 3, 4, 5], 6), ([1, 2, 3, 4, 5, 6], 7), ([0, 1, 2, 3, 4, 5, 6, 7], 8), ([], 9), ([], 10), ([9, 10], 11), ([9, 10, 11], 12), ([9, 10, 11, 12], 13), ([9, 10, 11, 12, 13], 14), ([9, 10, 11, 12, 13, 14], 15), ([0, 1, 2, 3, 4, 5, 6, 7, 8, 9, 10, 11, 12, 13, 14, 15], 16), ([], 17), ([], 18), ([17, 18], 19), ([17, 18, 19], 20), ([17, 18, 19, 20], 21), ([17, 18, 19, 20, 21], 22), ([17, 18, 19, 20, 21, 22], 23), ([0, 1, 2, 3, 4, 5, 6, 7, 8, 9, 10, 11, 12, 13, 14, 15, 16, 17, 18, 19, 20, 21, 22, 23], 24), ([], 25), ([], 26), ([25, 26], 27), ([25, 26, 27], 28), ([25, 26, 27, 28], 29), ([25, 26, 27, 28, 29], 30), ([25, 26, 27, 28, 29, 30], 31), ([0, 1, 2, 3, 4, 5, 6, 7, 8, 9, 10, 11, 12, 13, 14, 15, 16, 17, 18, 19, 20, 21, 22, 23, 24, 25, 26, 27, 28, 29, 30, 31], 32), ([0, 1, 2, 3, 4, 5, 6, 7, 8, 9, 10, 11, 12, 13, 14, 15, 16, 17, 18, 19, 20, 21, 22, 23, 24, 25, 26, 27, 28, 29, 30, 31, 32], 33)] 32 (by decide +kernel) ?_; simp [hkk,hk0,hk1,hll,hq']))
end
end Go.Proofs.YtdplbgfokoajjaaGreat
end
section
set_option linter.unusedVariables false
set_option linter.unusedSimpArgs false
set_option maxRecDepth 20000
namespace Go.Proofs.YtdplbgfokoajjaaGreat
open Go
attribute [local simp] RF_nil RF_cons afterRF_ret nilCmp sop sGuard isCall sCallee Fr.eval Fr.get Fr.put ofConst sLoad sStore sBuiltin Fr.args bodyQ sRes oneOf sBin sInt sUn
attribute [local simp] RD_nil RD_cons noConf clear accAdd Tab.pr Tab.slot foot wid idOf refId Op.operands Call.operands sFieldAddr sNilCheck sLookup keyLit sMapSet sMapDel sLen Store.at Store.new getP setP typeAt fits evalParts sBuildSlice sFill sList sApp sAppend frzRe frz pureB pureL
attribute [local simp] optEval sSlice sIndexAddr
abbrev txt (l : List UInt8) : ByteArray := ⟨l.toArray⟩
instance : DecidableEq Fl := fun a b => decidable_of_iff (a.b = b.b ∧ a.last = b.last) (by cases a; cases b; simp)
instance : DecidableEq Dk := fun a b => decidable_of_iff (a.room = b.room ∧ a.files = b.files ∧ a.fuse = b.fuse ∧ a.fail = b.fail) (by cases a; cases b; simp)
theorem h1 {n : List UInt8} (h : n.length < 100 := by decide) : (txt n).size ≤ maxLen := Nat.le_trans (Nat.le_of_lt h) (by decide)
def lay (d : Dk) (r : Store) : Store := some (dkM d) :: some (dkBj d 0) :: r
theorem lay_at (d : Dk) (r : Store) : DkAt (lay d r) 1 0 d := ⟨by decide, rfl, rfl⟩
theorem lay_put (d d' : Dk) (r : Store) : dkPut (lay d r) 1 0 d' = lay d' r := rfl
theorem lay_new (n : Int) : [some (.mp 9 []), some (.cells 54 0 [.agg 54 [i64 n, .map 0, i64 (-1), i64 0]])] = lay ⟨n, [], -1, 0⟩ [] := rfl
theorem VL_nils {c : Cx} : ∀ {xs : List PV} {vs : List Value}, VL tE c (xs ++ [.nils]) vs → VL tE c (xs ++ [u8s []]) vs := fun {xs vs} h => by
 obtain ⟨us, ws, rfl, h1, h2⟩ := VL.split h
 obtain ⟨v, rfl⟩ : ∃ v, ws = [v] := by
  have := h2.len
  match ws, this with
  | [v], _ => exact ⟨v, rfl⟩
 exact VL.app h1 (V.nils_lit h2)
theorem bytes_size (b : ByteArray) : b.size = b.data.toList.length := (Array.length_toList).symm
theorem bytes_loop (b : ByteArray) : ∀ (n i : Nat) (r : List UInt8), b.size - i = n → ByteArray.toList.loop b i r = r.reverse ++ b.data.toList.drop i := by
 intro n
 have hsz := bytes_size b
 induction n with
 | zero =>
  intro i r h
  unfold ByteArray.toList.loop
  have h' : ¬ i < b.size := by omega
  rw [if_neg h', List.drop_eq_nil_iff.2 (by omega)]
  simp
 | succ n ih =>
  intro i r h
  unfold ByteArray.toList.loop
  have h' : i < b.size := by omega
  rw [if_pos h', ih (i + 1) _ (by omega)]
  have hl : i < b.data.toList.length := by omega
  rw [List.drop_eq_getElem_cons hl]
  have : b.get! i = b.data.toList[i] := by
   have hl' : i < b.data.size := by rw [← Array.length_toList]; exact hl
   show b.data[i]! = _
   rw [getElem!_pos b.data i hl', Array.getElem_toList]
  simp [this]
theorem bytes_toList (b : ByteArray) : b.toList = b.data.toList := by
 unfold ByteArray.toList
 rw [bytes_loop b _ 0 [] rfl]; simp
end Go.Proofs.YtdplbgfokoajjaaGreat
end
section
set_option linter.unusedVariables false
set_option linter.unusedSimpArgs false
set_option maxRecDepth 20000
namespace Go.Proofs.YtdplbgfokoajjaaGreat
open Go Go.ChangeShapes Go.RowKit
theorem Tryz.own : ownKnob Tryz.prog.godebug = none := by kernel_rfl
theorem Tryz.laidOut : laidOutB Tryz.prog = true := by kernel_rfl
section
variable {H : Type} {enc : TypeId × Value → H}
theorem arg_V {W : World} {sp : Nat → Bool} {held : Bool} {t : TypeId} {v : Value} {d : DataW H} {ps : List MemPlace} {base : Nat} (n : Nat) (hs : simpleT tE n t = true) (hst : ∀ fs, tE.P.underlying t ≠ some (.struct fs)) (harr : ∀ m e, tE.P.underlying t ≠ some (.array m e))
  (hok : Value.okWide tE.P W .any base t v) (h : DataW.Trod enc tE.P W 0 sp held t v d ps) : ∃ x, V tE (cx0 W) x v ∧ Dat tE n t x := by
 obtain ⟨fuel, h⟩ := h
 obtain ⟨x, h1, h2, h3⟩ := trod_VC tOK W fuel n t _ d ps hs h
 have hk := simple_kn hs
 obtain ⟨td, hu, hag⟩ := tOK.und t hk
 have hna : tE.agg t = false := by
  rw [hag]
  cases td <;> first | rfl | (exact absurd hu (hst _)) | (exact absurd hu (harr _ _))
 have hcell : Cell.okWide tE.P W .any base t v := by
  unfold Value.okWide at hok
  rw [hu] at hok
  cases td <;> first | exact hok | (exact absurd hu (hst _)) | (exact absurd hu (harr _ _))
 have hnagg : ∀ cs, v ≠ .agg cs := fun cs e => by
  subst e
  have h5 : Cell.ok tE.P W .any base t (.agg cs) → False := fun hc => by
   unfold Cell.ok at hc
   rw [hu] at hc
   cases td <;> exact hc
  unfold Cell.okWide at hcell
  rw [hu] at hcell
  cases td <;> exact h5 hcell
 have hone : v.cells = #[v] := by
  cases v with
  | agg cs => exact absurd rfl (hnagg cs)
  | _ => rfl
 rw [hone] at h1
 refine ⟨x, V_one h1 (fun t' fs e => ?_), h3⟩
 subst e
 simp only [fits, Bool.and_eq_true, hna] at h2
 exact absurd h2.2 (by simp)
theorem trodAll_stays {W W' : World} (hb : Below W.heap.size W W') : ∀ {ts : List TypeId} {vs : List Value} {ds : List (DataW H)} {ps : List MemPlace}, (∀ t ∈ ts, Tryz.prog.readableRec t = true ∧ t < Tryz.prog.types.size) →
  DataW.TrodAll enc Tryz.prog W 0 (fun _ => true) true ts vs ds ps → (∀ x ∈ ps, x.block < W.heap.size) → DataW.TrodAll enc Tryz.prog W' 0 (fun b => decide (b < W.heap.size)) true ts vs ds ps
 | [], [], [], ps, _, h, _ => h
 | t :: ts, v :: vs, d :: ds, ps, ht, h, hl => by
  obtain ⟨p, q, h1, h2, rfl⟩ := h
  obtain ⟨k1, k2⟩ := ht t (by simp)
  exact ⟨p, q, Below.trod Tryz.laidOut k1 k2 h1 hb (fun x hx => hl x (by simp [hx])), trodAll_stays hb (fun t ht' => ht t (by simp [ht'])) h2 (fun x hx => hl x (by simp [hx])), rfl⟩
 | [], _ :: _, _, _, _, h, _ => h.elim
 | [], [], _ :: _, _, _, h, _ => h.elim
 | _ :: _, [], _, _, _, h, _ => h.elim
 | _ :: _, _ :: _, [], _, _, h, _ => h.elim
theorem law_post {s : ChangeSpec} {fn : Func} {W W' : World} {args : Array Value} {ds gs : List (DataW H)} {before : List MemPlace} {fresh : Bool} (hW : DataW.Whole enc Tryz.prog fn.params.toList s.vars false W args.toList ds gs before) (hb : Below W.heap.size W W')
  (hvars : s.vars = []) (hs : s.fn H (ds ++ gs) = { results := [.lit (.bool true)], args := ds }) (hr : fn.resultTypes = #[4]) (hread : fn.params.toList.all (fun t => Tryz.prog.readableRec t && decide (t < Tryz.prog.types.size)) = true) :
  s.post enc Tryz.prog fn false fresh false false W args (.bool true) W' := by
 have hW' := hW
 obtain ⟨p, q, h1, h2, rfl, h3, h4⟩ := hW
 have hlt := fun x hx => hW'.lt x hx
 have hbool : Tryz.prog.underlying 4 = some .bool := tOK.td 4 rfl
 refine ⟨ds, gs, p ++ q, [], p, [], hW', ?_, ?_, ?_, ?_, by simp⟩
 ·rw [hs, hr]
  cases fresh <;> exact trodAll_mk1 (shut_bool hbool true)
 ·rw [hs]
  exact trodAll_stays hb (fun t ht => by simpa using List.all_eq_true.1 hread t ht) h1 (fun x hx => hlt x (by simp [hx]))
 ·rw [hvars, hs]; rfl
 ·refine ⟨hb.os, hb.output, fun i hi => ?_⟩
  rw [hb.block i hi]
  exact (World.keptBut_refl W (fun x => x ∈ p ++ q ∧ (x ∈ ([] : List MemPlace) ∨ x ∈ p ∨ x ∈ ([] : List MemPlace)))).2.2 i hi
theorem law_calls {f : FuncId} {xs : List PV} {W : World} {args : Array Value} (hv : VL tE (cx0 W) xs args.toList) (hC : ∀ R : Re → Store → Prop, (∀ σ, R (.ret (.bool true)) σ) → C tE f xs [] R) :
  Calls Tryz.prog f args W fun e W' => e = .returned (.bool true) ∧ Below W.heap.size W W' := by
 have := hC (fun re _ => re = .ret (.bool true)) (fun _ => rfl) (cx0 W) args (Now.cx0 W) hv
 refine Calls.mono this ?_
 rintro e w' ⟨re, σ', cx', rfl, rfl, hre, hn, hs⟩
 refine ⟨?_, ⟨hs.os, hs.tape, hs.output, hs.size, fun k hk => hs.keeps k hk⟩⟩
 cases e <;> simp only [ReOK] at hre
 have := V.bool_inv hre
 rw [this]
theorem dat_int {n : Nat} {x : PV} (h : Dat tE (n + 1) 3 x) : ∃ k, x = i64 k ∧ -9223372036854775808 ≤ k ∧ k ≤ 9223372036854775807 := by
 obtain ⟨k, rfl, hw⟩ := (h : ∃ i, x = .int .i64 i ∧ (Lit.int .i64 i).wf = true)
 refine ⟨k, rfl, ?_⟩
 simp [Lit.wf, IntKind.has, IntKind.min, IntKind.max, IntKind.signed, IntKind.bits] at hw
 omega
theorem dat_u8 {n : Nat} {x : PV} (h : Dat tE (n + 1) 5 x) : ∃ k : UInt8, x = .int .u8 k.toNat := by
 obtain ⟨k, rfl, hw⟩ := (h : ∃ i, x = .int .u8 i ∧ (Lit.int .u8 i).wf = true)
 simp [Lit.wf, IntKind.has, IntKind.min, IntKind.max, IntKind.signed, IntKind.bits] at hw
 refine ⟨UInt8.ofNat k.toNat, ?_⟩
 have : (UInt8.ofNat k.toNat).toNat = k.toNat := by simp; omega
 rw [this]
 congr 1; omega
theorem dat_str {n : Nat} {x : PV} (h : Dat tE (n + 1) 9 x) : ∃ s : ByteArray, x = .str s ∧ s.size ≤ maxLen := h
theorem dat_list {n : Nat} {e t : TypeId} {x : PV} {α : Type} {f : α → PV} {P : α → Prop} (h : ∃ xs, x = .lit xs ∧ xs.length ≤ maxLen ∧ ∀ y ∈ xs, Dat tE n e y) (hf : ∀ y, Dat tE n e y → ∃ a, y = f a ∧ P a) :
  ∃ l : List α, x = .lit (l.map f) ∧ l.length ≤ maxLen ∧ ∀ a ∈ l, P a := by
 obtain ⟨xs, rfl, hl, hx⟩ := h
 have : ∃ l : List α, xs = l.map f ∧ ∀ a ∈ l, P a := by
  clear hl
  induction xs with
  | nil => exact ⟨[], rfl, by simp⟩
  | cons y ys ih =>
   obtain ⟨a, rfl, ha⟩ := hf y (hx y (by simp))
   obtain ⟨l, rfl, hl⟩ := ih fun y hy => hx y (by simp [hy])
   exact ⟨a :: l, rfl, fun b hb => by rcases List.mem_cons.1 hb with rfl | hb; exact ha; exact hl b hb⟩
 obtain ⟨l, rfl, h2⟩ := this
 exact ⟨l, rfl, by simpa using hl, h2⟩
theorem dat_bytes {n : Nat} {x : PV} (h : Dat tE (n + 2) 32 x) : ∃ l : List UInt8, x = u8s l ∧ l.length ≤ maxLen := by
 obtain ⟨l, rfl, h1, _⟩ := dat_list (t := 0) (f := fun b : UInt8 => PV.int .u8 b.toNat) (P := fun _ => True) (h : ∃ xs, x = .lit xs ∧ xs.length ≤ maxLen ∧ ∀ y ∈ xs, Dat tE (n + 1) 5 y) (fun y hy => by
  obtain ⟨k, rfl⟩ := dat_u8 hy
  exact ⟨k, rfl, trivial⟩)
 exact ⟨l, rfl, h1⟩
theorem dat_ints {n : Nat} {x : PV} (h : Dat tE (n + 2) 33 x) : ∃ l : List Int, x = .lit (ints l) ∧ l.length ≤ maxLen ∧ ∀ k ∈ l, -9223372036854775808 ≤ k ∧ k ≤ 9223372036854775807 :=
 dat_list (t := 0) (f := i64) (P := fun k => -9223372036854775808 ≤ k ∧ k ≤ 9223372036854775807) (h : ∃ xs, x = .lit xs ∧ xs.length ≤ maxLen ∧ ∀ y ∈ xs, Dat tE (n + 1) 3 y) (fun y hy => dat_int hy)
end
end Go.Proofs.YtdplbgfokoajjaaGreat
end
