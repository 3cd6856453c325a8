/- Package disk: Crash. -/
import Derived.Test.YthllcknfidnfaaaDp
import Derived.Test.YthllcknfidnfaaaSae
set_option linter.unusedVariables false
set_option linter.unusedSimpArgs false
set_option maxRecDepth 4000
namespace Go.Proofs.Ythllcknfidnfaaa
open Go
attribute [local simp] RF_nil RF_cons afterRF_ret nilCmp sop sGuard isCall sCallee Fr.eval Fr.get Fr.put ofConst sLoad sStore sBuiltin Fr.args bodyQ sRes oneOf sBin sInt sUn
attribute [local simp] RD_nil RD_cons noConf clear accAdd Tab.pr Tab.slot foot wid idOf refId Op.operands Call.operands sFieldAddr sNilCheck sLookup keyLit sMapSet sMapDel sLen Store.at Store.new getP setP typeAt fits evalParts sBuildSlice sFill sList sApp sAppend frzRe frz pureB pureL
attribute [local simp] dkB dkS u8s optEval sSlice sIndexAddr

def ints (l : List Int) : List PV := l.map i64
/-- What a crash leaves of a file. -/
def crF (f : Fl) (k : Option Int) : Fl :=
  match k with
  | some k => ⟨f.b.take (f.last + min (max k 0) (f.b.length - f.last)).toNat, f.last + min (max k 0) (f.b.length - f.last)⟩
  | none => ⟨f.b.take f.last.toNat, f.last⟩
def crFs (keep : List Int) : Nat → List (List UInt8) → List (List UInt8 × Fl) → List (List UInt8 × Fl)
  | _, [], fs => fs
  | i, n :: ns, fs => crFs keep (i + 1) ns (match dget n fs with | some f => dput n (crF f keep[i]?) fs | none => fs)
structure FlOK (f : Fl) : Prop where
  lo : 0 ≤ f.last
  hi : f.last ≤ f.b.length
  sz : f.b.length < 100000000
theorem crF_ok {f : Fl} (h : FlOK f) (k : Option Int) : FlOK (crF f k) := by
  obtain ⟨h1, h2, h3⟩ := h
  unfold crF
  split
  · rename_i k
    refine ⟨?_, ?_, ?_⟩
    · show 0 ≤ f.last + min (max k 0) (f.b.length - f.last); omega
    · show f.last + min (max k 0) (f.b.length - f.last) ≤ (List.length (f.b.take _) : Nat)
      rw [List.length_take]; omega
    · show List.length (f.b.take _) < _
      rw [List.length_take]; omega
  · refine ⟨h1, ?_, ?_⟩
    · show f.last ≤ (List.length (f.b.take _) : Nat)
      rw [List.length_take]; omega
    · show List.length (f.b.take _) < _
      rw [List.length_take]; omega
theorem dget_dins (n m : List UInt8) (f : Fl) : ∀ l : List (List UInt8 × Fl), (∀ p ∈ l, p.1 ≠ n) → dget m (dins (n, f) l) = if m = n then some f else dget m l
  | [], _ => by
    simp only [dins, dget, List.find?_cons, List.find?_nil]
    by_cases h : m = n
    · simp [h]
    · have : (n == m) = false := by simp [Ne.symm h]
      simp [h, this]
  | y :: l, hl => by
    have ih := dget_dins n m f l fun p hp => hl p (by simp [hp])
    simp only [dins]
    split
    · by_cases h : m = n
      · simp [dget, h]
      · have : (n == m) = false := by simp [Ne.symm h]
        simp [dget, List.find?_cons, h, this]
    · have hy := hl y (by simp)
      by_cases h : y.1 = m
      · have hmn : m ≠ n := fun e => hy (h.trans e)
        simp [dget, List.find?_cons, h, hmn]
      · have hb : (y.1 == m) = false := by simp [h]
        simp only [dget, List.find?_cons, hb] at ih ⊢
        exact ih
theorem dget_ddel (n m : List UInt8) (l : List (List UInt8 × Fl)) : dget m (ddel n l) = if m = n then none else dget m l := by
  unfold dget ddel
  induction l with
  | nil => simp
  | cons y l ih =>
    simp only [List.filter_cons, List.find?_cons]
    by_cases h : y.1 = n
    · have hb : (y.1 == n) = true := by simp [h]
      simp only [hb, Bool.not_true, Bool.false_eq_true, if_false, ih]
      by_cases hm : m = n
      · simp [hm]
      · have hb2 : (y.1 == m) = false := by simp [h, Ne.symm hm]
        simp [hm, hb2]
    · have hb : (y.1 == n) = false := by simp [h]
      simp only [hb, Bool.not_false, if_true, List.find?_cons]
      by_cases hm : y.1 = m
      · have hmn : m ≠ n := fun e => h (hm.trans e)
        simp [hm, hmn]
      · have hb2 : (y.1 == m) = false := by simp [hm]
        simp only [hb2, ih]
theorem dget_dput (n m : List UInt8) (f : Fl) (l : List (List UInt8 × Fl)) : dget m (dput n f l) = if m = n then some f else dget m l := by
  unfold dput
  rw [dget_dins n m f _ fun p hp => by simp [ddel] at hp; exact hp.2, dget_ddel]
  by_cases h : m = n <;> simp [h]
theorem dins_len (x : List UInt8 × Fl) : ∀ l, (dins x l).length = l.length + 1
  | [] => rfl
  | y :: l => by
    simp only [dins]
    split
    · simp
    · simp [dins_len x l]
theorem ddel_len (n : List UInt8) (l : List (List UInt8 × Fl)) : (ddel n l).length ≤ l.length := List.length_filter_le _ _
theorem dput_len (n : List UInt8) (f : Fl) (l : List (List UInt8 × Fl)) : (dput n f l).length ≤ l.length + 1 := by
  unfold dput
  rw [dins_len]
  have := ddel_len n l
  omega

theorem mem_u8l (x : PV) (l : List UInt8) : x ∈ u8l l ↔ ∃ b ∈ l, PV.int .u8 b.toNat = x := List.mem_map
theorem u8l_take (l : List UInt8) (n : Nat) : u8l (l.take n) = (u8l l).take n := by simp [u8l]
theorem encFs_below (n : Nat) (l : List (List UInt8 × Fl)) : (encFs l).all (fun q => belowB n q.2) = true := by
  simp only [encFs, List.all_map, List.all_eq_true]
  intro p _
  simp [encF, u8s, belowB, belowL]
section
variable {R : Re → Store → Prop} {d : Dk} {keep : List Int}
theorem C_crash (hl : d.files.length < 1000) (hm : ∀ n ∈ names d, n.length ≤ maxLen) (hf : ∀ n ∈ names d, ∃ f, dget n d.files = some f ∧ FlOK f) (hk : ∀ k ∈ keep, k ≤ 9223372036854775807) (hkl : keep.length ≤ 9223372036854775807)
    (h : R (.ret (.tup [])) (dkS { d with files := crFs keep 0 (names d) d.files, fuse := -1, fail := 0 })) : C tE 17 [.ptr 0 0 0 [], .lit (ints keep)] (dkS d) R := by
  refine C_new tOK ?_
  refine C_bodyk tOK Try.func17 rfl (Nat.le_of_ble_eq_true rfl) fun K hK => ?_; simp
  repeat (first | (refine T_seqk fun K hK => ?_) | (refine T_reg tOK rfl ?_; simp) | (refine T_ret ?_; try simp) | (refine T_skip ?_; try simp) | (refine T_blockk fun K hK => ?_) | apply_assumption -exfalso -symm | (rw [afterRF_ret]; simp) | (refine T_exit ?_; try simp) | (refine T_cond_t ?_ ?_; · (simp; done)) | (refine T_cond_f ?_ ?_; · (simp; done)) | (rintro _ _ (_ | _) hz9 <;> first | (simp; done) | (simp at hz9; done)) | (refine And.intro ?_ ?_) | (simp only [Post.block_ret, Post.block_exit, Post.block_normal, Post.block_pan, Post.seq_ret, Post.seq_exit, Post.seq_normal, Post.seq_pan]; try simp) | (refine T_draw tOK tmix [([], 0), ([0], 1), ([], 2), ([], 3), ([2, 3], 4), ([2, 3, 4], 5), ([2, 3, 4, 5], 6), ([], 7), ([7], 8), ([7, 8], 9), ([], 10), ([10], 11), ([7, 8, 9, 10, 11], 12), ([2, 3, 4, 5, 6, 7, 8, 9, 10, 11, 12], 13), ([0, 1, 2, 3, 4, 5, 6, 7, 8, 9, 10, 11, 12, 13], 14), ([0, 1, 2, 3, 4, 5, 6, 7, 8, 9, 10, 11, 12, 13, 14], 15), ([0, 1, 2, 3, 4, 5, 6, 7, 8, 9, 10, 11, 12, 13, 14, 15], 16)] 14 (by decide +kernel) ?_; simp) | (refine T_draw tOK tmix [([], 0), ([0], 1), ([0, 1], 2), ([0, 1, 2], 3), ([], 4), ([], 5), ([0, 1, 2, 3, 4, 5], 6)] 6 (by decide +kernel) ?_; simp))
  refine C_list (by omega) ?_
  repeat (first | (refine T_seqk fun K hK => ?_) | (refine T_reg tOK rfl ?_; simp) | (refine T_ret ?_; try simp) | (refine T_skip ?_; try simp) | (refine T_blockk fun K hK => ?_) | apply_assumption -exfalso -symm | (rw [afterRF_ret]; simp) | (refine T_exit ?_; try simp) | (refine T_cond_t ?_ ?_; · (simp; done)) | (refine T_cond_f ?_ ?_; · (simp; done)) | (rintro _ _ (_ | _) hz9 <;> first | (simp; done) | (simp at hz9; done)) | (refine And.intro ?_ ?_) | (simp only [Post.block_ret, Post.block_exit, Post.block_normal, Post.block_pan, Post.seq_ret, Post.seq_exit, Post.seq_normal, Post.seq_pan]; try simp) | (refine T_draw tOK tmix [([], 0), ([0], 1), ([], 2), ([], 3), ([2, 3], 4), ([2, 3, 4], 5), ([2, 3, 4, 5], 6), ([], 7), ([7], 8), ([7, 8], 9), ([], 10), ([10], 11), ([7, 8, 9, 10, 11], 12), ([2, 3, 4, 5, 6, 7, 8, 9, 10, 11, 12], 13), ([0, 1, 2, 3, 4, 5, 6, 7, 8, 9, 10, 11, 12, 13], 14), ([0, 1, 2, 3, 4, 5, 6, 7, 8, 9, 10, 11, 12, 13, 14], 15), ([0, 1, 2, 3, 4, 5, 6, 7, 8, 9, 10, 11, 12, 13, 14, 15], 16)] 14 (by decide +kernel) ?_; simp) | (refine T_draw tOK tmix [([], 0), ([0], 1), ([0, 1], 2), ([0, 1, 2], 3), ([], 4), ([], 5), ([0, 1, 2, 3, 4, 5], 6)] 6 (by decide +kernel) ?_; simp))
  refine T_loop ?_
  refine TL_keep [0, 1, 8, 9, 10] ?_
  simp [Fr.keep]
  have hlen : (names d).length = d.files.length := by simp [names]
  have hsl : (strs (names d)).length = (names d).length := by simp [strs]
  refine (?key : ∀ (ns : List (List UInt8)) (k : Nat) (fs : List (List UInt8 × Fl)), (names d).drop k = ns → (∀ n ∈ ns, ∃ f, dget n fs = some f ∧ FlOK f) → fs.length + ns.length < 100000 → crFs keep k ns fs = crFs keep 0 (names d) d.files →
    TL tE _ _ _ _ [(0, .ptr 0 0 0 []), (1, .lit (ints keep)), (8, .lit (strs (names d))), (9, i64 ↑(strs (names d)).length), (10, i64 k)] [some (Blk.cells 54 0 [PV.agg 54 [i64 d.room, PV.map 1, i64 d.fuse, i64 d.fail]]), some (Blk.mp 9 (encFs fs))]) (names d) 0 d.files rfl hf (by omega) rfl
  intro ns
  induction ns with
  | nil =>
    intro k fs hdrop _ _ hfs
    have hk0 : decide (k < (strs (names d)).length) = false := by
      have := List.drop_eq_nil_iff.1 hdrop
      rw [decide_eq_false_iff_not]; omega
    refine TL_round ?_
    repeat (first | (refine T_seqk fun K hK => ?_) | (refine T_reg tOK rfl ?_; simp [hk0]) | (refine T_ret ?_; try simp) | (refine T_skip ?_; try simp) | (refine T_blockk fun K hK => ?_) | apply_assumption -exfalso -symm | (rw [afterRF_ret]; simp [hk0]) | (refine T_exit ?_; try simp) | (refine T_cond_t ?_ ?_; · (simp; done)) | (refine T_cond_f ?_ ?_; · (simp; done)) | (rintro _ _ (_ | _) hz9 <;> first | (simp; done) | (simp at hz9; done)) | (refine And.intro ?_ ?_) | (simp only [Post.block_ret, Post.block_exit, Post.block_normal, Post.block_pan, Post.seq_ret, Post.seq_exit, Post.seq_normal, Post.seq_pan]; try simp [hk0]) | (refine T_draw tOK tmix [([], 0), ([0], 1), ([], 2), ([], 3), ([2, 3], 4), ([2, 3, 4], 5), ([2, 3, 4, 5], 6), ([], 7), ([7], 8), ([7, 8], 9), ([], 10), ([10], 11), ([7, 8, 9, 10, 11], 12), ([2, 3, 4, 5, 6, 7, 8, 9, 10, 11, 12], 13), ([0, 1, 2, 3, 4, 5, 6, 7, 8, 9, 10, 11, 12, 13], 14), ([0, 1, 2, 3, 4, 5, 6, 7, 8, 9, 10, 11, 12, 13, 14], 15), ([0, 1, 2, 3, 4, 5, 6, 7, 8, 9, 10, 11, 12, 13, 14, 15], 16)] 14 (by decide +kernel) ?_; simp [hk0]) | (refine T_draw tOK tmix [([], 0), ([0], 1), ([0, 1], 2), ([0, 1, 2], 3), ([], 4), ([], 5), ([0, 1, 2, 3, 4, 5], 6)] 6 (by decide +kernel) ?_; simp [hk0]))
    · exact .inr (by simp [allStore, allBlk, allL, allB]; exact fun a b => encFs_all _ _ (a, b))
    · have hfs : fs = crFs keep 0 (names d) d.files := hfs
      subst hfs
      simpa [frzT, frzN] using h
  | cons n ns ih =>
    intro k fs hdrop hP hlen2 hfs
    have hkl : k < (names d).length := by
      rcases Nat.lt_or_ge k (names d).length with h | h
      · exact h
      · rw [List.drop_eq_nil_iff.2 h] at hdrop; simp at hdrop
    have hk0 : decide (k < (strs (names d)).length) = true := by rw [decide_eq_true_eq, hsl]; exact hkl
    have hnk : (names d)[k]? = some n := by
      have := List.getElem?_drop (xs := names d) (i := k) (j := 0)
      rw [hdrop] at this; simpa using this.symm
    have hsk : (strs (names d))[k]? = some (.str ⟨n.toArray⟩) := by simp [strs, hnk]
    have hns : (⟨n.toArray⟩ : ByteArray).size ≤ maxLen := hm n (List.mem_of_getElem? hnk)
    obtain ⟨f, hg, hF⟩ := hP n (by simp)
    have hget := mget_enc n fs
    rw [hg] at hget
    obtain ⟨q1, q2, q3⟩ := hF
    have hF : FlOK f := ⟨q1, q2, q3⟩
    have hwk : IntKind.i64.wrap ((k : Int) + 1) = ((k + 1 : Nat) : Int) := by rw [IntWalk.i64_in _ (by omega)]; omega
    have hfl : (encFs fs).length < 1000000 := by simp only [encFs, List.length_map]; simp at hlen2; omega
    have hbl : (u8l f.b).length = f.b.length := by simp [u8l]
    have hcr : ∀ x, keep[k]? = x → crFs keep (k + 1) ns (dput n (crF f x) fs) = crFs keep 0 (names d) d.files := fun x hx => by
      rw [← hfs]; simp only [crFs, hg, hx]
    have hP' : ∀ x, ∀ m ∈ ns, ∃ g, dget m (dput n (crF f x) fs) = some g ∧ FlOK g := fun x m hm' => by
      rw [dget_dput]
      split
      · exact ⟨_, rfl, crF_ok hF x⟩
      · exact hP m (by simp [hm'])
    have hlen' : ∀ x, (dput n (crF f x) fs).length + ns.length < 100000 := fun x => by
      have := dput_len n (crF f x) fs
      simp at hlen2; omega
    have hdrop' : (names d).drop (k + 1) = ns := by
      have := congrArg (List.drop 1) hdrop
      simpa [List.drop_drop] using this
    cases hkk : keep[k]? with
    | none =>
      have hkk0 : decide (k < (ints keep).length) = false := by
        rw [decide_eq_false_iff_not]
        have := List.getElem?_eq_none_iff.1 hkk
        simp [ints]; omega
      have hput : mput (.string n) (.agg 56 [.lit ((u8l f.b).take f.last.toNat), i64 f.last]) (encFs fs) = encFs (dput n (crF f none) fs) := by
        rw [← u8l_take]; exact mput_enc n (crF f none) fs
      have hfit : f.last ≤ (f.b.length : Int) := q2
      refine TL_round ?_
      repeat (first | (refine T_seqk fun K hK => ?_) | (refine T_reg tOK rfl ?_; simp [hk0,hsk,hns,hget,encF,hkk0,hwk,hfl,hbl,q1,q2,mem_u8l]) | (refine T_ret ?_; try simp) | (refine T_skip ?_; try simp) | (refine T_blockk fun K hK => ?_) | apply_assumption -exfalso -symm | (rw [afterRF_ret]; simp [hk0,hsk,hns,hget,encF,hkk0,hwk,hfl,hbl,q1,q2,mem_u8l]) | (refine T_exit ?_; try simp) | (refine T_cond_t ?_ ?_; · (simp; done)) | (refine T_cond_f ?_ ?_; · (simp; done)) | (rintro _ _ (_ | _) hz9 <;> first | (simp; done) | (simp at hz9; done)) | (refine And.intro ?_ ?_) | (simp only [Post.block_ret, Post.block_exit, Post.block_normal, Post.block_pan, Post.seq_ret, Post.seq_exit, Post.seq_normal, Post.seq_pan]; try simp [hk0,hsk,hns,hget,encF,hkk0,hwk,hfl,hbl,q1,q2,mem_u8l]) | (refine T_draw tOK tmix [([], 0), ([0], 1), ([], 2), ([], 3), ([2, 3], 4), ([2, 3, 4], 5), ([2, 3, 4, 5], 6), ([], 7), ([7], 8), ([7, 8], 9), ([], 10), ([10], 11), ([7, 8, 9, 10, 11], 12), ([2, 3, 4, 5, 6, 7, 8, 9, 10, 11, 12], 13), ([0, 1, 2, 3, 4, 5, 6, 7, 8, 9, 10, 11, 12, 13], 14), ([0, 1, 2, 3, 4, 5, 6, 7, 8, 9, 10, 11, 12, 13, 14], 15), ([0, 1, 2, 3, 4, 5, 6, 7, 8, 9, 10, 11, 12, 13, 14, 15], 16)] 14 (by decide +kernel) ?_; simp [hk0,hsk,hns,hget,encF,hkk0,hwk,hfl,hbl,q1,q2,mem_u8l]) | (refine T_draw tOK tmix [([], 0), ([0], 1), ([0, 1], 2), ([0, 1, 2], 3), ([], 4), ([], 5), ([0, 1, 2, 3, 4, 5], 6)] 6 (by decide +kernel) ?_; simp [hk0,hsk,hns,hget,encF,hkk0,hwk,hfl,hbl,q1,q2,mem_u8l]))
      refine TL_fall 2 [0, 1, 8, 9, 10] (Nat.le_refl _) ?_ ?_ ?_ ?_ (ih (k + 1) _ hdrop' (hP' none) (hlen' none) (hcr none hkk))
      · simp [Fr.keep]
      · simp [belowFr, belowB]
      · rw [hput]; rfl
      · simp only [belowStore, belowBlk, List.all_cons, encFs_below]; simp [belowL, belowB]
    | some q =>
      have hkl2 : k < keep.length := getElem?_lt hkk
      have hkk0 : decide (k < (ints keep).length) = true := by rw [decide_eq_true_eq]; simpa [ints] using hkl2
      have hik : (ints keep)[k]? = some (i64 q) := by simp [ints, hkk]
      have hq := hk q (List.mem_of_getElem? hkk)
      have hput : mput (.string n) (.agg 56 [.lit ((u8l f.b).take (f.last + min (max q 0) (f.b.length - f.last)).toNat), i64 (f.last + min (max q 0) (f.b.length - f.last))]) (encFs fs) = encFs (dput n (crF f (some q)) fs) := by
        rw [← u8l_take]; exact mput_enc n (crF f (some q)) fs
      have hw1 : IntKind.i64.wrap ((f.b.length : Int) - f.last) = (f.b.length : Int) - f.last := IntWalk.i64_in _ (by omega)
      generalize hL : f.last + min (max q 0) ((f.b.length : Int) - f.last) = L at hput
      have hw2 : IntKind.i64.wrap (f.last + min (max q 0) ((f.b.length : Int) - f.last)) = L := by rw [hL]; exact IntWalk.i64_in _ (by omega)
      have q4 : 0 ≤ L := by omega
      have q5 : L ≤ (f.b.length : Int) := by omega
      clear hq
      refine TL_round ?_
      repeat (first | (refine T_seqk fun K hK => ?_) | (refine T_reg tOK rfl ?_; simp [hk0,hsk,hns,hget,encF,hkk0,hik,hwk,hfl,hbl,hw1,hw2,q1,q2,q4,q5,mem_u8l]) | (refine T_ret ?_; try simp) | (refine T_skip ?_; try simp) | (refine T_blockk fun K hK => ?_) | apply_assumption -exfalso -symm | (rw [afterRF_ret]; simp [hk0,hsk,hns,hget,encF,hkk0,hik,hwk,hfl,hbl,hw1,hw2,q1,q2,q4,q5,mem_u8l]) | (refine T_exit ?_; try simp) | (refine T_cond_t ?_ ?_; · (simp; done)) | (refine T_cond_f ?_ ?_; · (simp; done)) | (rintro _ _ (_ | _) hz9 <;> first | (simp; done) | (simp at hz9; done)) | (refine And.intro ?_ ?_) | (simp only [Post.block_ret, Post.block_exit, Post.block_normal, Post.block_pan, Post.seq_ret, Post.seq_exit, Post.seq_normal, Post.seq_pan]; try simp [hk0,hsk,hns,hget,encF,hkk0,hik,hwk,hfl,hbl,hw1,hw2,q1,q2,q4,q5,mem_u8l]) | (refine T_draw tOK tmix [([], 0), ([0], 1), ([], 2), ([], 3), ([2, 3], 4), ([2, 3, 4], 5), ([2, 3, 4, 5], 6), ([], 7), ([7], 8), ([7, 8], 9), ([], 10), ([10], 11), ([7, 8, 9, 10, 11], 12), ([2, 3, 4, 5, 6, 7, 8, 9, 10, 11, 12], 13), ([0, 1, 2, 3, 4, 5, 6, 7, 8, 9, 10, 11, 12, 13], 14), ([0, 1, 2, 3, 4, 5, 6, 7, 8, 9, 10, 11, 12, 13, 14], 15), ([0, 1, 2, 3, 4, 5, 6, 7, 8, 9, 10, 11, 12, 13, 14, 15], 16)] 14 (by decide +kernel) ?_; simp [hk0,hsk,hns,hget,encF,hkk0,hik,hwk,hfl,hbl,hw1,hw2,q1,q2,q4,q5,mem_u8l]) | (refine T_draw tOK tmix [([], 0), ([0], 1), ([0, 1], 2), ([0, 1, 2], 3), ([], 4), ([], 5), ([0, 1, 2, 3, 4, 5], 6)] 6 (by decide +kernel) ?_; simp [hk0,hsk,hns,hget,encF,hkk0,hik,hwk,hfl,hbl,hw1,hw2,q1,q2,q4,q5,mem_u8l]))
      refine TL_fall 2 [0, 1, 8, 9, 10] (Nat.le_refl _) ?_ ?_ ?_ ?_ (ih (k + 1) _ hdrop' (hP' (some q)) (hlen' (some q)) (hcr (some q) hkk))
      · simp [Fr.keep]
      · simp [belowFr, belowB]
      · rw [hput]; rfl
      · simp only [belowStore, belowBlk, List.all_cons, encFs_below]; simp [belowL, belowB]
end
end Go.Proofs.Ythllcknfidnfaaa
