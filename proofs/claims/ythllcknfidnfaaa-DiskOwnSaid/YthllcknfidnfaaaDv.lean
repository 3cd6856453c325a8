/- The statements' own functions: Great; New where it may not be; the live question. -/
import Derived.Test.YthllcknfidnfaaaDu
set_option linter.unusedVariables false
set_option linter.unusedSimpArgs false
set_option maxRecDepth 4000
namespace Go.Proofs.Ythllcknfidnfaaa
open Go
attribute [local simp] RF_nil RF_cons afterRF_ret nilCmp sop sGuard isCall sCallee Fr.eval Fr.get Fr.put ofConst sLoad sStore sBuiltin Fr.args bodyQ sRes oneOf sBin sInt sUn
attribute [local simp] RD_nil RD_cons noConf clear accAdd Tab.pr Tab.slot foot wid idOf refId Op.operands Call.operands sFieldAddr sNilCheck sLookup keyLit sMapSet sMapDel sLen Store.at Store.new getP setP typeAt fits evalParts sBuildSlice sFill sList sApp sAppend frzRe frz pureB pureL
attribute [local simp] dkB dkS u8s optEval sSlice sIndexAddr

section
variable {R : Re → Store → Prop} {σ : Store} {d : Dk} {i j : Nat} {n : Int} {o : OpV}
theorem C_do_at (h0 : DkAt σ i j d) (hI : Inv d) (ho : o.OK) (h : R (.ret (i64 (doOp d o).1)) (dkPut σ i j (doOp d o).2)) : C tE 14 [.ptr i 0 0 [], encOp o] σ R :=
  C_at (args := [.ptr 0 0 0 [], encOp o]) h0 rfl (fun R h => C_do hI ho h) (fun τ => rfl) h
theorem C_new_none (h0 : (decide (n < 0) || decide (1048576 < n)) = true) (h : R (.ret .nilp) σ) : C tE 10 [i64 n] σ R := by
  cases h1 : decide (n < 0) with
  | true =>
    refine C_bodyk tOK Try.func10 rfl (Nat.le_of_ble_eq_true rfl) fun K hK => ?_; simp
    repeat (first | (refine T_seqk fun K hK => ?_) | (refine T_reg tOK rfl ?_; simp [h1]) | (refine T_ret ?_; try simp) | (refine T_skip ?_; try simp) | (refine T_blockk fun K hK => ?_) | apply_assumption -exfalso -symm | (rw [afterRF_ret]; simp [h1]) | (refine T_exit ?_; try simp) | (refine T_cond_t ?_ ?_; · (simp; done)) | (refine T_cond_f ?_ ?_; · (simp; done)) | (rintro _ _ (_ | _) hz9 <;> first | (simp; done) | (simp at hz9; done)) | (refine And.intro ?_ ?_) | (simp only [Post.block_ret, Post.block_exit, Post.block_normal, Post.block_pan, Post.seq_ret, Post.seq_exit, Post.seq_normal, Post.seq_pan]; try simp [h1]) | (refine T_loop (TL_round ?_)) | (refine TL_round ?_))
  | false =>
    have h2 : decide (1048576 < n) = true := by simpa [h1] using h0
    refine C_bodyk tOK Try.func10 rfl (Nat.le_of_ble_eq_true rfl) fun K hK => ?_; simp
    repeat (first | (refine T_seqk fun K hK => ?_) | (refine T_reg tOK rfl ?_; simp [h1,h2]) | (refine T_ret ?_; try simp) | (refine T_skip ?_; try simp) | (refine T_blockk fun K hK => ?_) | apply_assumption -exfalso -symm | (rw [afterRF_ret]; simp [h1,h2]) | (refine T_exit ?_; try simp) | (refine T_cond_t ?_ ?_; · (simp; done)) | (refine T_cond_f ?_ ?_; · (simp; done)) | (rintro _ _ (_ | _) hz9 <;> first | (simp; done) | (simp at hz9; done)) | (refine And.intro ?_ ?_) | (simp only [Post.block_ret, Post.block_exit, Post.block_normal, Post.block_pan, Post.seq_ret, Post.seq_exit, Post.seq_normal, Post.seq_pan]; try simp [h1,h2]) | (refine T_loop (TL_round ?_)) | (refine TL_round ?_))

/-- How much a call counts. -/
def bulk (o : OpV) : Int := min (o.name.size : Int) 9000 + min (o.to.size : Int) 9000 + min (o.b.length : Int) 9000 + min (o.keep.length : Int) 9000
def gsum : List OpV → Int → Int
  | [], n => n
  | o :: r, n => if n < 20000 then gsum r (n + bulk o) else n
def great (l : List OpV) : Bool := decide (20000 ≤ gsum l l.length) || decide (300 < (l.length : Int))
def encOps (l : List OpV) : List PV := l.map encOp
theorem bulk_nn (o : OpV) : 0 ≤ bulk o ∧ bulk o ≤ 36000 := by unfold bulk; omega
set_option maxHeartbeats 4000000 in
theorem C_great {l : List OpV} (hl : l.length ≤ 9223372036854775807) (h : R (.ret (.bool (great l))) σ) : C tE 11 [.lit (encOps l)] σ R := by
  have hll : (encOps l).length = l.length := by simp [encOps]
  refine C_pure tOK rfl ?_
  refine C_bodyk tOK Try.func11 rfl (Nat.le_of_ble_eq_true rfl) fun K hK => ?_; simp
  repeat (first | (refine T_seqk fun K hK => ?_) | (refine T_reg tOK rfl ?_; simp [hll]) | (refine T_ret ?_; try simp) | (refine T_skip ?_; try simp) | (refine T_blockk fun K hK => ?_) | apply_assumption -exfalso -symm | (rw [afterRF_ret]; simp [hll]) | (refine T_exit ?_; try simp) | (refine T_cond_t ?_ ?_; · (simp; done)) | (refine T_cond_f ?_ ?_; · (simp; done)) | (rintro _ _ (_ | _) hz9 <;> first | (simp; done) | (simp at hz9; done)) | (refine And.intro ?_ ?_) | (simp only [Post.block_ret, Post.block_exit, Post.block_normal, Post.block_pan, Post.seq_ret, Post.seq_exit, Post.seq_normal, Post.seq_pan]; try simp [hll]) | (refine T_draw tOK tmix [([], 0), ([], 1), ([], 2), ([1, 2], 3), ([1, 2, 3], 4), ([1, 2, 3, 4], 5), ([1, 2, 3, 4, 5], 6), ([1, 2, 3, 4, 5, 6], 7), ([0, 1, 2, 3, 4, 5, 6, 7], 8), ([], 9), ([], 10), ([9, 10], 11), ([9, 10, 11], 12), ([9, 10, 11, 12], 13), ([9, 10, 11, 12, 13], 14), ([9, 10, 11, 12, 13, 14], 15), ([0, 1, 2, 3, 4, 5, 6, 7, 8, 9, 10, 11, 12, 13, 14, 15], 16), ([], 17), ([], 18), ([17, 18], 19), ([17, 18, 19], 20), ([17, 18, 19, 20], 21), ([17, 18, 19, 20, 21], 22), ([17, 18, 19, 20, 21, 22], 23), ([0, 1, 2, 3, 4, 5, 6, 7, 8, 9, 10, 11, 12, 13, 14, 15, 16, 17, 18, 19, 20, 21, 22, 23], 24), ([], 25), ([], 26), ([25, 26], 27), ([25, 26, 27], 28), ([25, 26, 27, 28], 29), ([25, 26, 27, 28, 29], 30), ([25, 26, 27, 28, 29, 30], 31), ([0, 1, 2, 3, 4, 5, 6, 7, 8, 9, 10, 11, 12, 13, 14, 15, 16, 17, 18, 19, 20, 21, 22, 23, 24, 25, 26, 27, 28, 29, 30, 31], 32), ([0, 1, 2, 3, 4, 5, 6, 7, 8, 9, 10, 11, 12, 13, 14, 15, 16, 17, 18, 19, 20, 21, 22, 23, 24, 25, 26, 27, 28, 29, 30, 31, 32], 33)] 32 (by decide +kernel) ?_; simp [hll]))
  refine T_loop ?_
  refine TL_keep [0, 3, 4] ?_
  simp [Fr.keep]
  refine (?key : ∀ (r : List OpV) (k : Nat) (n : Int), l.drop k = r → 0 ≤ n → n ≤ 9223372036854775807 → gsum r n = gsum l l.length →
    TL tE _ _ _ _ [(0, .lit (encOps l)), (3, i64 n), (4, i64 k)] []) l 0 l.length rfl (by omega) (by omega) rfl
  intro r
  induction r with
  | nil =>
    intro k n hdrop hn0 hn1 hg
    have hk0 : decide (k < l.length) = false := by
      have := List.drop_eq_nil_iff.1 hdrop
      rw [decide_eq_false_iff_not]; omega
    have hg : n = gsum l l.length := hg
    unfold great at h
    rw [← hg] at h
    cases hq : decide (20000 ≤ n) with
    | true =>
      have hq' : 20000 ≤ n := by simpa using hq
      rw [hq] at h
      refine TL_round ?_
      repeat (first | (refine T_seqk fun K hK => ?_) | (refine T_reg tOK rfl ?_; simp [hk0,hll,hq']) | (refine T_ret ?_; try simp) | (refine T_skip ?_; try simp) | (refine T_blockk fun K hK => ?_) | apply_assumption -exfalso -symm | (rw [afterRF_ret]; simp [hk0,hll,hq']) | (refine T_exit ?_; try simp) | (refine T_cond_t ?_ ?_; · (simp; done)) | (refine T_cond_f ?_ ?_; · (simp; done)) | (rintro _ _ (_ | _) hz9 <;> first | (simp; done) | (simp at hz9; done)) | (refine And.intro ?_ ?_) | (simp only [Post.block_ret, Post.block_exit, Post.block_normal, Post.block_pan, Post.seq_ret, Post.seq_exit, Post.seq_normal, Post.seq_pan]; try simp [hk0,hll,hq']) | (refine T_draw tOK tmix [([], 0), ([], 1), ([], 2), ([1, 2], 3), ([1, 2, 3], 4), ([1, 2, 3, 4], 5), ([1, 2, 3, 4, 5], 6), ([1, 2, 3, 4, 5, 6], 7), ([0, 1, 2, 3, 4, 5, 6, 7], 8), ([], 9), ([], 10), ([9, 10], 11), ([9, 10, 11], 12), ([9, 10, 11, 12], 13), ([9, 10, 11, 12, 13], 14), ([9, 10, 11, 12, 13, 14], 15), ([0, 1, 2, 3, 4, 5, 6, 7, 8, 9, 10, 11, 12, 13, 14, 15], 16), ([], 17), ([], 18), ([17, 18], 19), ([17, 18, 19], 20), ([17, 18, 19, 20], 21), ([17, 18, 19, 20, 21], 22), ([17, 18, 19, 20, 21, 22], 23), ([0, 1, 2, 3, 4, 5, 6, 7, 8, 9, 10, 11, 12, 13, 14, 15, 16, 17, 18, 19, 20, 21, 22, 23], 24), ([], 25), ([], 26), ([25, 26], 27), ([25, 26, 27], 28), ([25, 26, 27, 28], 29), ([25, 26, 27, 28, 29], 30), ([25, 26, 27, 28, 29, 30], 31), ([0, 1, 2, 3, 4, 5, 6, 7, 8, 9, 10, 11, 12, 13, 14, 15, 16, 17, 18, 19, 20, 21, 22, 23, 24, 25, 26, 27, 28, 29, 30, 31], 32), ([0, 1, 2, 3, 4, 5, 6, 7, 8, 9, 10, 11, 12, 13, 14, 15, 16, 17, 18, 19, 20, 21, 22, 23, 24, 25, 26, 27, 28, 29, 30, 31, 32], 33)] 32 (by decide +kernel) ?_; simp [hk0,hll,hq']))
    | false =>
      have hq' : (20000 ≤ n) = False := by simpa using hq
      rw [hq] at h
      refine TL_round ?_
      repeat (first | (refine T_seqk fun K hK => ?_) | (refine T_reg tOK rfl ?_; simp [hk0,hll,hq']) | (refine T_ret ?_; try simp) | (refine T_skip ?_; try simp) | (refine T_blockk fun K hK => ?_) | apply_assumption -exfalso -symm | (rw [afterRF_ret]; simp [hk0,hll,hq']) | (refine T_exit ?_; try simp) | (refine T_cond_t ?_ ?_; · (simp; done)) | (refine T_cond_f ?_ ?_; · (simp; done)) | (rintro _ _ (_ | _) hz9 <;> first | (simp; done) | (simp at hz9; done)) | (refine And.intro ?_ ?_) | (simp only [Post.block_ret, Post.block_exit, Post.block_normal, Post.block_pan, Post.seq_ret, Post.seq_exit, Post.seq_normal, Post.seq_pan]; try simp [hk0,hll,hq']) | (refine T_draw tOK tmix [([], 0), ([], 1), ([], 2), ([1, 2], 3), ([1, 2, 3], 4), ([1, 2, 3, 4], 5), ([1, 2, 3, 4, 5], 6), ([1, 2, 3, 4, 5, 6], 7), ([0, 1, 2, 3, 4, 5, 6, 7], 8), ([], 9), ([], 10), ([9, 10], 11), ([9, 10, 11], 12), ([9, 10, 11, 12], 13), ([9, 10, 11, 12, 13], 14), ([9, 10, 11, 12, 13, 14], 15), ([0, 1, 2, 3, 4, 5, 6, 7, 8, 9, 10, 11, 12, 13, 14, 15], 16), ([], 17), ([], 18), ([17, 18], 19), ([17, 18, 19], 20), ([17, 18, 19, 20], 21), ([17, 18, 19, 20, 21], 22), ([17, 18, 19, 20, 21, 22], 23), ([0, 1, 2, 3, 4, 5, 6, 7, 8, 9, 10, 11, 12, 13, 14, 15, 16, 17, 18, 19, 20, 21, 22, 23], 24), ([], 25), ([], 26), ([25, 26], 27), ([25, 26, 27], 28), ([25, 26, 27, 28], 29), ([25, 26, 27, 28, 29], 30), ([25, 26, 27, 28, 29, 30], 31), ([0, 1, 2, 3, 4, 5, 6, 7, 8, 9, 10, 11, 12, 13, 14, 15, 16, 17, 18, 19, 20, 21, 22, 23, 24, 25, 26, 27, 28, 29, 30, 31], 32), ([0, 1, 2, 3, 4, 5, 6, 7, 8, 9, 10, 11, 12, 13, 14, 15, 16, 17, 18, 19, 20, 21, 22, 23, 24, 25, 26, 27, 28, 29, 30, 31, 32], 33)] 32 (by decide +kernel) ?_; simp [hk0,hll,hq']))
  | cons o r ih =>
    intro k n hdrop hn0 hn1 hg
    simp only [gsum] at hg
    by_cases hn : n < 20000
    · rw [if_pos hn] at hg
      have hkl : k < l.length := by
        rcases Nat.lt_or_ge k l.length with h | h
        · exact h
        · rw [List.drop_eq_nil_iff.2 h] at hdrop; simp at hdrop
      have hdrop' : l.drop (k + 1) = r := by
        have := congrArg (List.drop 1) hdrop
        simpa [List.drop_drop] using this
      have hlk : l[k]? = some o := by
        have := List.getElem?_drop (xs := l) (i := k) (j := 0)
        rw [hdrop] at this; simpa using this.symm
      have hek : (encOps l)[k]? = some (.agg 35 [i64 o.what, .str o.name, .str o.to, .lit (u8l o.b), i64 o.n, .lit (ints o.keep)]) := by simp [encOps, hlk, encOp]
      have hk0 : decide (k < l.length) = true := by simpa using hkl
      have hnd : decide (n < 20000) = true := by simpa using hn
      have hwk : IntKind.i64.wrap ((k : Int) + 1) = ((k + 1 : Nat) : Int) := by rw [IntWalk.i64_in _ (by omega)]; omega
      have hbl : (u8l o.b).length = o.b.length := by simp [u8l]
      have hil : (ints o.keep).length = o.keep.length := by simp [ints]
      have w1 : IntKind.i64.wrap (n + min (o.name.size : Int) 9000) = n + min (o.name.size : Int) 9000 := IntWalk.i64_in _ (by omega)
      have w2 : IntKind.i64.wrap (n + min (o.name.size : Int) 9000 + min (o.to.size : Int) 9000) = n + min (o.name.size : Int) 9000 + min (o.to.size : Int) 9000 := IntWalk.i64_in _ (by omega)
      have w3 : IntKind.i64.wrap (n + min (o.name.size : Int) 9000 + min (o.to.size : Int) 9000 + min (o.b.length : Int) 9000) = n + min (o.name.size : Int) 9000 + min (o.to.size : Int) 9000 + min (o.b.length : Int) 9000 := IntWalk.i64_in _ (by omega)
      have w4 : IntKind.i64.wrap (n + min (o.name.size : Int) 9000 + min (o.to.size : Int) 9000 + min (o.b.length : Int) 9000 + min (o.keep.length : Int) 9000) = n + min (o.name.size : Int) 9000 + min (o.to.size : Int) 9000 + min (o.b.length : Int) 9000 + min (o.keep.length : Int) 9000 := IntWalk.i64_in _ (by omega)
      have hb := bulk_nn o
      have hsum : n + min (o.name.size : Int) 9000 + min (o.to.size : Int) 9000 + min (o.b.length : Int) 9000 + min (o.keep.length : Int) 9000 = n + bulk o := by unfold bulk; omega
      refine TL_round ?_
      repeat (first | (refine T_seqk fun K hK => ?_) | (refine T_reg tOK rfl ?_; simp [hk0,hnd,hn,hll,hek,hwk,hbl,hil,w1,w2,w3,w4]) | (refine T_ret ?_; try simp) | (refine T_skip ?_; try simp) | (refine T_blockk fun K hK => ?_) | apply_assumption -exfalso -symm | (rw [afterRF_ret]; simp [hk0,hnd,hn,hll,hek,hwk,hbl,hil,w1,w2,w3,w4]) | (refine T_exit ?_; try simp) | (refine T_cond_t ?_ ?_; · (simp; done)) | (refine T_cond_f ?_ ?_; · (simp; done)) | (rintro _ _ (_ | _) hz9 <;> first | (simp; done) | (simp at hz9; done)) | (refine And.intro ?_ ?_) | (simp only [Post.block_ret, Post.block_exit, Post.block_normal, Post.block_pan, Post.seq_ret, Post.seq_exit, Post.seq_normal, Post.seq_pan]; try simp [hk0,hnd,hn,hll,hek,hwk,hbl,hil,w1,w2,w3,w4]) | (refine T_draw tOK tmix [([], 0), ([], 1), ([], 2), ([1, 2], 3), ([1, 2, 3], 4), ([1, 2, 3, 4], 5), ([1, 2, 3, 4, 5], 6), ([1, 2, 3, 4, 5, 6], 7), ([0, 1, 2, 3, 4, 5, 6, 7], 8), ([], 9), ([], 10), ([9, 10], 11), ([9, 10, 11], 12), ([9, 10, 11, 12], 13), ([9, 10, 11, 12, 13], 14), ([9, 10, 11, 12, 13, 14], 15), ([0, 1, 2, 3, 4, 5, 6, 7, 8, 9, 10, 11, 12, 13, 14, 15], 16), ([], 17), ([], 18), ([17, 18], 19), ([17, 18, 19], 20), ([17, 18, 19, 20], 21), ([17, 18, 19, 20, 21], 22), ([17, 18, 19, 20, 21, 22], 23), ([0, 1, 2, 3, 4, 5, 6, 7, 8, 9, 10, 11, 12, 13, 14, 15, 16, 17, 18, 19, 20, 21, 22, 23], 24), ([], 25), ([], 26), ([25, 26], 27), ([25, 26, 27], 28), ([25, 26, 27, 28], 29), ([25, 26, 27, 28, 29], 30), ([25, 26, 27, 28, 29, 30], 31), ([0, 1, 2, 3, 4, 5, 6, 7, 8, 9, 10, 11, 12, 13, 14, 15, 16, 17, 18, 19, 20, 21, 22, 23, 24, 25, 26, 27, 28, 29, 30, 31], 32), ([0, 1, 2, 3, 4, 5, 6, 7, 8, 9, 10, 11, 12, 13, 14, 15, 16, 17, 18, 19, 20, 21, 22, 23, 24, 25, 26, 27, 28, 29, 30, 31, 32], 33)] 32 (by decide +kernel) ?_; simp [hk0,hnd,hn,hll,hek,hwk,hbl,hil,w1,w2,w3,w4]))
      rw [hsum]
      refine TL_fall 0 [0, 3, 4] (Nat.le_refl _) rfl rfl rfl rfl (ih (k + 1) _ hdrop' (by omega) (by omega) hg)
    · rw [if_neg hn] at hg
      unfold great at h
      rw [← hg] at h
      have hq' : 20000 ≤ n := by omega
      have hq : decide (20000 ≤ n) = true := by simpa using hq'
      have hk0 : decide (n < 20000) = false := by simpa using hq'
      have hk1 : (n < 20000) = False := by simpa using hq'
      clear hn
      rw [hq] at h
      cases hkk : decide (k < l.length) with
      | true =>
        refine TL_round ?_
        repeat (first | (refine T_seqk fun K hK => ?_) | (refine T_reg tOK rfl ?_; simp [hkk,hk0,hk1,hll,hq']) | (refine T_ret ?_; try simp) | (refine T_skip ?_; try simp) | (refine T_blockk fun K hK => ?_) | apply_assumption -exfalso -symm | (rw [afterRF_ret]; simp [hkk,hk0,hk1,hll,hq']) | (refine T_exit ?_; try simp) | (refine T_cond_t ?_ ?_; · (simp; done)) | (refine T_cond_f ?_ ?_; · (simp; done)) | (rintro _ _ (_ | _) hz9 <;> first | (simp; done) | (simp at hz9; done)) | (refine And.intro ?_ ?_) | (simp only [Post.block_ret, Post.block_exit, Post.block_normal, Post.block_pan, Post.seq_ret, Post.seq_exit, Post.seq_normal, Post.seq_pan]; try simp [hkk,hk0,hk1,hll,hq']) | (refine T_draw tOK tmix [([], 0), ([], 1), ([], 2), ([1, 2], 3), ([1, 2, 3], 4), ([1, 2, 3, 4], 5), ([1, 2, 3, 4, 5], 6), ([1, 2, 3, 4, 5, 6], 7), ([0, 1, 2, 3, 4, 5, 6, 7], 8), ([], 9), ([], 10), ([9, 10], 11), ([9, 10, 11], 12), ([9, 10, 11, 12], 13), ([9, 10, 11, 12, 13], 14), ([9, 10, 11, 12, 13, 14], 15), ([0, 1, 2, 3, 4, 5, 6, 7, 8, 9, 10, 11, 12, 13, 14, 15], 16), ([], 17), ([], 18), ([17, 18], 19), ([17, 18, 19], 20), ([17, 18, 19, 20], 21), ([17, 18, 19, 20, 21], 22), ([17, 18, 19, 20, 21, 22], 23), ([0, 1, 2, 3, 4, 5, 6, 7, 8, 9, 10, 11, 12, 13, 14, 15, 16, 17, 18, 19, 20, 21, 22, 23], 24), ([], 25), ([], 26), ([25, 26], 27), ([25, 26, 27], 28), ([25, 26, 27, 28], 29), ([25, 26, 27, 28, 29], 30), ([25, 26, 27, 28, 29, 30], 31), ([0, 1, 2, 3, 4, 5, 6, 7, 8, 9, 10, 11, 12, 13, 14, 15, 16, 17, 18, 19, 20, 21, 22, 23, 24, 25, 26, 27, 28, 29, 30, 31], 32), ([0, 1, 2, 3, 4, 5, 6, 7, 8, 9, 10, 11, 12, 13, 14, 15, 16, 17, 18, 19, 20, 21, 22, 23, 24, 25, 26, 27, 28, 29, 30, 31, 32], 33)] 32 (by decide +kernel) ?_; simp [hkk,hk0,hk1,hll,hq']))
      | false =>
        refine TL_round ?_
        repeat (first | (refine T_seqk fun K hK => ?_) | (refine T_reg tOK rfl ?_; simp [hkk,hk0,hk1,hll,hq']) | (refine T_ret ?_; try simp) | (refine T_skip ?_; try simp) | (refine T_blockk fun K hK => ?_) | apply_assumption -exfalso -symm | (rw [afterRF_ret]; simp [hkk,hk0,hk1,hll,hq']) | (refine T_exit ?_; try simp) | (refine T_cond_t ?_ ?_; · (simp; done)) | (refine T_cond_f ?_ ?_; · (simp; done)) | (rintro _ _ (_ | _) hz9 <;> first | (simp; done) | (simp at hz9; done)) | (refine And.intro ?_ ?_) | (simp only [Post.block_ret, Post.block_exit, Post.block_normal, Post.block_pan, Post.seq_ret, Post.seq_exit, Post.seq_normal, Post.seq_pan]; try simp [hkk,hk0,hk1,hll,hq']) | (refine T_draw tOK tmix [([], 0), ([], 1), ([], 2), ([1, 2], 3), ([1, 2, 3], 4), ([1, 2, 3, 4], 5), ([1, 2, 3, 4, 5], 6), ([1, 2, 3, 4, 5, 6], 7), ([0, 1, 2, 3, 4, 5, 6, 7], 8), ([], 9), ([], 10), ([9, 10], 11), ([9, 10, 11], 12), ([9, 10, 11, 12], 13), ([9, 10, 11, 12, 13], 14), ([9, 10, 11, 12, 13, 14], 15), ([0, 1, 2, 3, 4, 5, 6, 7, 8, 9, 10, 11, 12, 13, 14, 15], 16), ([], 17), ([], 18), ([17, 18], 19), ([17, 18, 19], 20), ([17, 18, 19, 20], 21), ([17, 18, 19, 20, 21], 22), ([17, 18, 19, 20, 21, 22], 23), ([0, 1, 2, 3, 4, 5, 6, 7, 8, 9, 10, 11, 12, 13, 14, 15, 16, 17, 18, 19, 20, 21, 22, 23], 24), ([], 25), ([], 26), ([25, 26], 27), ([25, 26, 27], 28), ([25, 26, 27, 28], 29), ([25, 26, 27, 28, 29], 30), ([25, 26, 27, 28, 29, 30], 31), ([0, 1, 2, 3, 4, 5, 6, 7, 8, 9, 10, 11, 12, 13, 14, 15, 16, 17, 18, 19, 20, 21, 22, 23, 24, 25, 26, 27, 28, 29, 30, 31], 32), ([0, 1, 2, 3, 4, 5, 6, 7, 8, 9, 10, 11, 12, 13, 14, 15, 16, 17, 18, 19, 20, 21, 22, 23, 24, 25, 26, 27, 28, 29, 30, 31, 32], 33)] 32 (by decide +kernel) ?_; simp [hkk,hk0,hk1,hll,hq']))
end
end Go.Proofs.Ythllcknfidnfaaa
