/- What is handed in is not kept, and what is handed out is one's own: the walk. -/
import Derived.Test.YthllcknfidnfaaaEh
import Derived.Test.YthllcknfidnfaaaEc
set_option linter.unusedVariables false
set_option linter.unusedSimpArgs false
set_option maxRecDepth 4000
namespace Go.Proofs.Ythllcknfidnfaaa
open Go
attribute [local simp] RF_nil RF_cons afterRF_ret nilCmp sop sGuard isCall sCallee Fr.eval Fr.get Fr.put ofConst sLoad sStore sBuiltin Fr.args bodyQ sRes oneOf sBin sInt sUn
attribute [local simp] RD_nil RD_cons noConf clear accAdd Tab.pr Tab.slot foot wid idOf refId Op.operands Call.operands sFieldAddr sNilCheck sLookup keyLit sMapSet sMapDel sLen Store.at Store.new getP setP typeAt fits evalParts sBuildSlice sFill sList sApp sAppend frzRe frz pureB pureL
attribute [local simp] u8s optEval sSlice sIndexAddr sConvStr

theorem u8lenO (l : List UInt8) : (u8l l).length = l.length := by simp [u8l]
theorem nmf : named ⟨#[102]⟩ = true := by decide +kernel
theorem szf : (⟨#[102]⟩ : ByteArray).size ≤ maxLen := by decide
theorem u8sOf_map' (l : List UInt8) : u8sOf (u8l l) = some l := u8sOf_map l
theorem bsz2 (l : List UInt8) : (⟨l.toArray⟩ : ByteArray).size = l.length := by rw [bytes_size]
theorem happ (a b : List UInt8) : (⟨a.toArray⟩ : ByteArray) ++ ⟨b.toArray⟩ = ⟨(a ++ b).toArray⟩ := by
  apply ByteArray.ext
  simp
def ownD (a : List UInt8) : Dk := ⟨1048576, [([102], ⟨a, 0⟩)], -1, 0⟩
theorem own_inv {a : List UInt8} (h : a.length ≤ 9000) : Inv (ownD a) := by
  refine ⟨by simp [ownD], by simp [ownD], by simp [ownD], ?_, by simp [ownD], by simp [ownD], by simp [ownD], by simp [ownD], by simp [ownD], by simp [ownD], by simp [ownD]⟩
  simp [ownD, used]; omega
theorem own_get {a b : List UInt8} (ha : a.length ≤ 9000) (hb : b.length ≤ 9000) : dget [102] (write (ownD a) ⟨#[102]⟩ b).2.files = some ⟨a ++ b, 0⟩ := by
  have h1 : ((ownD a).fuse == 0) = false := rfl
  have h2 : named ⟨#[102]⟩ = true := nmf
  have h3 : dget (⟨#[102]⟩ : ByteArray).data.toList (ownD a).files = some ⟨a, 0⟩ := rfl
  have h4 : ¬ (ownD a).room - used (ownD a).files < b.length := by simp [ownD, used]; omega
  unfold write
  rw [h1, h2, h3]
  simp only [Bool.false_eq_true, if_false, Bool.true_eq_false, h4]
  show dget [102] (dput [102] _ _) = _
  rw [dget_dput, if_pos rfl]
theorem below5 (l : List PV) {j2 j3 : Option Blk} {zs : List PV} (hj : belowStore 5 [j2, j3] = true) (hz : belowL 5 zs = true) :
    belowStore 5 [some (.mp 9 [(.string [102], .agg 56 [.lit l, i64 0])]), some (.cells 54 0 [.agg 54 [i64 1048576, .map 0, i64 (-1), i64 0]]), j2, j3, some (.cells 5 1 zs)] = true := by
  simp only [belowStore, List.all_cons, List.all_nil, Bool.and_true, Bool.and_eq_true] at hj ⊢
  exact ⟨by simp [belowBlk, belowL, belowB], by simp [belowBlk, belowL, belowB], hj.1, hj.2, hz⟩
theorem hske : (Lit.string [102]).sameKey (Lit.string [102]) = true := by decide
theorem bytes_ints (l : List UInt8) : ∀ (j : Nat) y, (u8l l)[j]? = some y → ∃ n, y = PV.int .u8 n := fun j y h => by
  obtain ⟨b, _, rfl⟩ := List.mem_map.1 (List.mem_of_getElem? h)
  exact ⟨_, rfl⟩
theorem set_ints {ys : List PV} (h : ∀ (j : Nat) y, ys[j]? = some y → ∃ n, y = PV.int .u8 n) {k : Nat} {v : Int} : ∀ (j : Nat) y, (ys.set k (.int .u8 v))[j]? = some y → ∃ n, y = PV.int .u8 n := fun j y hy => by
  rw [List.getElem?_set] at hy
  split at hy
  · split at hy
    · simp only [Option.some.injEq] at hy; exact ⟨v, hy.symm⟩
    · simp at hy
  · exact h j y hy
theorem below_ints {n : Nat} : ∀ {ys : List PV}, (∀ (j : Nat) y, ys[j]? = some y → ∃ n, y = PV.int .u8 n) → belowL n ys = true
  | [], _ => rfl
  | y :: ys, h => by
    obtain ⟨v, rfl⟩ := h 0 y rfl
    simp only [belowL, belowB, Bool.true_and]
    exact below_ints fun j y hy => h (j + 1) y (by simpa using hy)
section
variable {R : Re → Store → Prop} {a b : List UInt8}
set_option maxHeartbeats 4000000 in
theorem C_own_law (ha : a.length ≤ 9223372036854775807) (hb : b.length ≤ 9223372036854775807) (h : ∀ σ, R (.ret (.bool true)) σ) : C tE 5 [u8s a, u8s b] [] R := by
  refine C_bodyk tOK Try.func5 rfl (Nat.le_of_ble_eq_true rfl) fun K hK => ?_; simp
  repeat (first | (refine T_seqk fun K hK => ?_) | (refine T_reg tOK rfl ?_; simp) | (refine T_ret ?_; try simp) | (refine T_skip ?_; try simp) | (refine T_blockk fun K hK => ?_) | apply_assumption -exfalso -symm | (rw [afterRF_ret]; simp) | (refine T_exit ?_; try simp) | (refine T_cond_t ?_ ?_; · (simp; done)) | (refine T_cond_f ?_ ?_; · (simp; done)) | (rintro _ _ (_ | _) hz9 <;> first | (simp; done) | (simp at hz9; done)) | (refine And.intro ?_ ?_) | (simp only [Post.block_ret, Post.block_exit, Post.block_normal, Post.block_pan, Post.seq_ret, Post.seq_exit, Post.seq_normal, Post.seq_pan]; try simp) | (refine C_head ?_; simp))
  refine C_new_ok rfl rfl ?_
  cases ha9 : decide (9000 < a.length) with
  | true =>
    have ha9' : decide ((9000 : Int) < a.length) = true := by simp only [decide_eq_true_eq] at ha9 ⊢; omega
    repeat (first | (refine T_seqk fun K hK => ?_) | (refine T_reg tOK rfl ?_; simp [u8lenO,ha9,ha9']) | (refine T_ret ?_; try simp) | (refine T_skip ?_; try simp) | (refine T_blockk fun K hK => ?_) | apply_assumption -exfalso -symm | (rw [afterRF_ret]; simp [u8lenO,ha9,ha9']) | (refine T_exit ?_; try simp) | (refine T_cond_t ?_ ?_; · (simp; done)) | (refine T_cond_f ?_ ?_; · (simp; done)) | (rintro _ _ (_ | _) hz9 <;> first | (simp; done) | (simp at hz9; done)) | (refine And.intro ?_ ?_) | (simp only [Post.block_ret, Post.block_exit, Post.block_normal, Post.block_pan, Post.seq_ret, Post.seq_exit, Post.seq_normal, Post.seq_pan]; try simp [u8lenO,ha9,ha9']))
    all_goals first | exact h _ | skip
  | false =>
    have ha9' : decide ((9000 : Int) < a.length) = false := by simp only [decide_eq_false_iff_not] at ha9 ⊢; omega
    cases hb9 : decide (9000 < b.length) with
    | true =>
      have hb9' : decide ((9000 : Int) < b.length) = true := by simp only [decide_eq_true_eq] at hb9 ⊢; omega
      repeat (first | (refine T_seqk fun K hK => ?_) | (refine T_reg tOK rfl ?_; simp [u8lenO,ha9,ha9',hb9,hb9']) | (refine T_ret ?_; try simp) | (refine T_skip ?_; try simp) | (refine T_blockk fun K hK => ?_) | apply_assumption -exfalso -symm | (rw [afterRF_ret]; simp [u8lenO,ha9,ha9',hb9,hb9']) | (refine T_exit ?_; try simp) | (refine T_cond_t ?_ ?_; · (simp; done)) | (refine T_cond_f ?_ ?_; · (simp; done)) | (rintro _ _ (_ | _) hz9 <;> first | (simp; done) | (simp at hz9; done)) | (refine And.intro ?_ ?_) | (simp only [Post.block_ret, Post.block_exit, Post.block_normal, Post.block_pan, Post.seq_ret, Post.seq_exit, Post.seq_normal, Post.seq_pan]; try simp [u8lenO,ha9,ha9',hb9,hb9']))
      all_goals first | exact h _ | skip
    | false =>
      have hb9' : decide ((9000 : Int) < b.length) = false := by simp only [decide_eq_false_iff_not] at hb9 ⊢; omega
      have hal : a.length ≤ 9000 := by simp only [decide_eq_false_iff_not] at ha9; omega
      have hbl : b.length ≤ 9000 := by simp only [decide_eq_false_iff_not] at hb9; omega
      have qa : 2 * a.length ≤ 281474976709656 := by omega
      have qm : ∀ x ∈ u8l a, fits tE 5 x = true := u8_fit' a
      have ra : decide ((1048576 : Int) < a.length) = false := by rw [decide_eq_false_iff_not]; omega
      have ra' : decide (1048576 < a.length) = false := by rw [decide_eq_false_iff_not]; omega
      have k1 : IntKind.i64.wrap (-2) = -2 := by decide
      have k2 : IntKind.i64.wrap 1048576 = 1048576 := by decide
      have k3 : used [] = 0 := rfl
      have k4 : min (2 : Int) 1 = 1 := by decide
      have k5 : ((used [] : Nat) : Int) = 0 := rfl
      clear ha hb qm
      repeat (first | (refine T_seqk fun K hK => ?_) | (refine T_reg tOK rfl ?_; simp [u8lenO,ha9,ha9',hb9,hb9',qa,mem_u8l,nmf,szf,mget,k1,k4]) | (refine T_ret ?_; try simp) | (refine T_skip ?_; try simp) | (refine T_blockk fun K hK => ?_) | apply_assumption -exfalso -symm | (rw [afterRF_ret]; simp [u8lenO,ha9,ha9',hb9,hb9',qa,mem_u8l,nmf,szf,mget,k1,k4]) | (refine T_exit ?_; try simp) | (refine T_cond_t ?_ ?_; · (simp; done)) | (refine T_cond_f ?_ ?_; · (simp; done)) | (rintro _ _ (_ | _) hz9 <;> first | (simp; done) | (simp at hz9; done)) | (refine And.intro ?_ ?_) | (simp only [Post.block_ret, Post.block_exit, Post.block_normal, Post.block_pan, Post.seq_ret, Post.seq_exit, Post.seq_normal, Post.seq_pan]; try simp [u8lenO,ha9,ha9',hb9,hb9',qa,mem_u8l,nmf,szf,mget,k1,k4]) | (refine T_draw tOK tmix [([], 1), ([0], 2), ([0, 1], 3), ([0, 1, 2], 4), ([], 5), ([0, 1, 2, 3, 4], 6), ([0, 1, 2, 3, 4, 5], 7), ([0, 1, 2, 3, 4, 5, 6], 8), ([0, 1, 2, 3, 4, 5, 6], 9), ([], 0), ([0, 1, 2, 3, 4, 5, 6, 7, 9], 10), ([0, 1, 2, 3, 4, 5, 6, 7, 8, 9, 10], 11)] 11 (by decide +kernel) ?_; simp [u8lenO,ha9,ha9',hb9,hb9',qa,mem_u8l,nmf,szf,mget,k1,k4]) | (refine T_draw tOK tmix [([], 0), ([0], 1), ([], 2), ([2], 3), ([2, 3], 4), ([2, 3, 4], 5), ([], 6), ([6], 7), ([2, 3, 4, 5, 6, 7], 8), ([0, 1, 2, 3, 4, 5, 6, 7, 8], 9), ([0, 1, 2, 3, 4, 5, 6, 7, 8, 9], 10)] 9 (by decide +kernel) ?_; simp [u8lenO,ha9,ha9',hb9,hb9',qa,mem_u8l,nmf,szf,mget,k1,k4]) | (refine T_draw tOK tmix [([], 0), ([0], 1), ([0, 1], 2), ([0, 1, 2], 3), ([], 4), ([], 5), ([0, 1, 2, 3, 4, 5], 6)] 6 (by decide +kernel) ?_; simp [u8lenO,ha9,ha9',hb9,hb9',qa,mem_u8l,nmf,szf,mget,k1,k4]) | (refine C_named ?_; simp [u8lenO,ha9,ha9',hb9,hb9',qa,mem_u8l,nmf,szf,mget,k1,k4]) | (refine C_bodyk tOK Try.func18 rfl (Nat.le_of_ble_eq_true rfl) fun K hK => ?_; simp) | (refine C_bodyk tOK Try.func33 rfl (Nat.le_of_ble_eq_true rfl) fun K hK => ?_; simp) | (refine C_bodyk tOK Try.func34 rfl (Nat.le_of_ble_eq_true rfl) fun K hK => ?_; simp))
      refine RD_call (rd := [0, 1]) (fun τ hτ => C_used_at (i := 1) (j := 0) (d := ⟨1048576, [], -1, 0⟩) ⟨by decide, Store.at_some ((hτ 1 (by simp)).trans rfl), Store.at_some ((hτ 0 (by simp)).trans rfl)⟩ (by decide) ⟨rfl, rfl⟩) ?_
      simp [k2,k3,k5,u8lenO,ra,ra']
      repeat (first | (refine T_seqk fun K hK => ?_) | (refine T_reg tOK rfl ?_; simp [u8lenO,k2,k3,k5,ra,ra',nmf,szf,k1,k4]) | (refine T_ret ?_; try simp) | (refine T_skip ?_; try simp) | (refine T_blockk fun K hK => ?_) | apply_assumption -exfalso -symm | (rw [afterRF_ret]; simp [u8lenO,k2,k3,k5,ra,ra',nmf,szf,k1,k4]) | (refine T_exit ?_; try simp) | (refine T_cond_t ?_ ?_; · (simp; done)) | (refine T_cond_f ?_ ?_; · (simp; done)) | (rintro _ _ (_ | _) hz9 <;> first | (simp; done) | (simp at hz9; done)) | (refine And.intro ?_ ?_) | (simp only [Post.block_ret, Post.block_exit, Post.block_normal, Post.block_pan, Post.seq_ret, Post.seq_exit, Post.seq_normal, Post.seq_pan]; try simp [u8lenO,k2,k3,k5,ra,ra',nmf,szf,k1,k4]) | (refine T_draw tOK tmix [([], 1), ([0], 2), ([0, 1], 3), ([0, 1, 2], 4), ([], 5), ([0, 1, 2, 3, 4], 6), ([0, 1, 2, 3, 4, 5], 7), ([0, 1, 2, 3, 4, 5, 6], 8), ([0, 1, 2, 3, 4, 5, 6], 9), ([], 0), ([0, 1, 2, 3, 4, 5, 6, 7, 9], 10), ([0, 1, 2, 3, 4, 5, 6, 7, 8, 9, 10], 11)] 11 (by decide +kernel) ?_; simp [u8lenO,k2,k3,k5,ra,ra',nmf,szf,k1,k4]) | (refine T_draw tOK tmix [([], 0), ([0], 1), ([], 2), ([2], 3), ([2, 3], 4), ([2, 3, 4], 5), ([], 6), ([6], 7), ([2, 3, 4, 5, 6, 7], 8), ([0, 1, 2, 3, 4, 5, 6, 7, 8], 9), ([0, 1, 2, 3, 4, 5, 6, 7, 8, 9], 10)] 9 (by decide +kernel) ?_; simp [u8lenO,k2,k3,k5,ra,ra',nmf,szf,k1,k4]) | (refine T_draw tOK tmix [([], 0), ([0], 1), ([0, 1], 2), ([0, 1, 2], 3), ([], 4), ([], 5), ([0, 1, 2, 3, 4, 5], 6)] 6 (by decide +kernel) ?_; simp [u8lenO,k2,k3,k5,ra,ra',nmf,szf,k1,k4]) | (refine C_named ?_; simp [u8lenO,k2,k3,k5,ra,ra',nmf,szf,k1,k4]) | (refine C_bodyk tOK Try.func34 rfl (Nat.le_of_ble_eq_true rfl) fun K hK => ?_; simp))
      refine C_concatR (j := 2) (g := 1) (b := a) (by decide) rfl rfl (by omega) ?_
      repeat (first | (refine T_seqk fun K hK => ?_) | (refine T_reg tOK rfl ?_; simp [szf,mput,mins,mdel]) | (refine T_ret ?_; try simp) | (refine T_skip ?_; try simp) | (refine T_blockk fun K hK => ?_) | apply_assumption -exfalso -symm | (rw [afterRF_ret]; simp [szf,mput,mins,mdel]) | (refine T_exit ?_; try simp) | (refine T_cond_t ?_ ?_; · (simp; done)) | (refine T_cond_f ?_ ?_; · (simp; done)) | (rintro _ _ (_ | _) hz9 <;> first | (simp; done) | (simp at hz9; done)) | (refine And.intro ?_ ?_) | (simp only [Post.block_ret, Post.block_exit, Post.block_normal, Post.block_pan, Post.seq_ret, Post.seq_exit, Post.seq_normal, Post.seq_pan]; try simp [szf,mput,mins,mdel]) | (refine T_draw tOK tmix [([], 1), ([0], 2), ([0, 1], 3), ([0, 1, 2], 4), ([], 5), ([0, 1, 2, 3, 4], 6), ([0, 1, 2, 3, 4, 5], 7), ([0, 1, 2, 3, 4, 5, 6], 8), ([0, 1, 2, 3, 4, 5, 6], 9), ([], 0), ([0, 1, 2, 3, 4, 5, 6, 7, 9], 10), ([0, 1, 2, 3, 4, 5, 6, 7, 8, 9, 10], 11)] 11 (by decide +kernel) ?_; simp [szf,mput,mins,mdel]) | (refine T_draw tOK tmix [([], 0), ([0], 1), ([], 2), ([2], 3), ([2, 3], 4), ([2, 3, 4], 5), ([], 6), ([6], 7), ([2, 3, 4, 5, 6, 7], 8), ([0, 1, 2, 3, 4, 5, 6, 7, 8], 9), ([0, 1, 2, 3, 4, 5, 6, 7, 8, 9], 10)] 9 (by decide +kernel) ?_; simp [szf,mput,mins,mdel]) | (refine T_draw tOK tmix [([], 0), ([0], 1), ([0, 1], 2), ([0, 1, 2], 3), ([], 4), ([], 5), ([0, 1, 2, 3, 4, 5], 6)] 6 (by decide +kernel) ?_; simp [szf,mput,mins,mdel]) | (refine C_bodyk tOK Try.func34 rfl (Nat.le_of_ble_eq_true rfl) fun K hK => ?_; simp))
      rename_i Ka hKa Kb hKb
      clear hKb
      have tail1 : PLift (∀ fr ys, (∀ (j : Nat) y, ys[j]? = some y → ∃ n, y = PV.int .u8 n) → Fr.get fr 0 = some (.lit (u8l a)) → Fr.get fr 1 = some (.lit (u8l b)) → Fr.get fr 5 = some (.bool true) → Fr.get fr 6 = some (.ptr 1 0 0 []) →
          Ka fr [some (.mp 9 [(.string [102], .agg 56 [.lit (u8l a), i64 0])]), some (.cells 54 0 [.agg 54 [i64 1048576, .map 0, i64 (-1), i64 0]]), some (.cells 5 1 ys)]) := by
        refine ⟨?_⟩
        intro fr ys hyb f0 f1 f5 f6
        have hy5 : belowL 5 ys = true := below_ints hyb
        clear hyb
        apply hKa
        clear hKa hK
        refine T_keep [0, 1, 5, 6] ?_
        simp [Fr.keep, f0, f1, f5, f6]
        cases a with
        | nil =>
          repeat (first | (refine T_seqk fun K hK => ?_) | (refine T_reg tOK rfl ?_; simp [szf,mget,hske]) | (refine T_ret ?_; try simp) | (refine T_skip ?_; try simp) | (refine T_blockk fun K hK => ?_) | apply_assumption -exfalso -symm | (rw [afterRF_ret]; simp [szf,mget,hske]) | (refine T_exit ?_; try simp) | (refine T_cond_t ?_ ?_; · (simp; done)) | (refine T_cond_f ?_ ?_; · (simp; done)) | (rintro _ _ (_ | _) hz9 <;> first | (simp; done) | (simp at hz9; done)) | (refine And.intro ?_ ?_) | (simp only [Post.block_ret, Post.block_exit, Post.block_normal, Post.block_pan, Post.seq_ret, Post.seq_exit, Post.seq_normal, Post.seq_pan]; try simp [szf,mget,hske]) | (refine C_bodyk tOK Try.func19 rfl (Nat.le_of_ble_eq_true rfl) fun K hK => ?_; simp))
          refine C_clone (l := []) (by simp) ?_
          repeat (first | (refine T_seqk fun K hK => ?_) | (refine T_reg tOK rfl ?_; simp) | (refine T_ret ?_; try simp) | (refine T_skip ?_; try simp) | (refine T_blockk fun K hK => ?_) | apply_assumption -exfalso -symm | (rw [afterRF_ret]; simp) | (refine T_exit ?_; try simp) | (refine T_cond_t ?_ ?_; · (simp; done)) | (refine T_cond_f ?_ ?_; · (simp; done)) | (rintro _ _ (_ | _) hz9 <;> first | (simp; done) | (simp at hz9; done)) | (refine And.intro ?_ ?_) | (simp only [Post.block_ret, Post.block_exit, Post.block_normal, Post.block_pan, Post.seq_ret, Post.seq_exit, Post.seq_normal, Post.seq_pan]; try simp))
          rename_i Kc hKc Kd hKd
          clear hKd
          have hsum : b.length ≤ 9223372036854775807 := by omega
          have tail2 : PLift (∀ fr rest, Fr.get fr 0 = some (.lit (u8l [])) → Fr.get fr 1 = some (.lit (u8l b)) → Fr.get fr 5 = some (.bool true) → Fr.get fr 6 = some (.ptr 1 0 0 []) → Kc fr (some (.mp 9 [(.string [102], .agg 56 [.lit (u8l []), i64 0])]) :: some (.cells 54 0 [.agg 54 [i64 1048576, .map 0, i64 (-1), i64 0]]) :: rest)) := by
            refine ⟨?_⟩
            intro fr rest f0 f1 f5 f6
            apply hKc
            clear hKc hK
            refine T_keep [0, 1, 5, 6] ?_
            simp [Fr.keep, f0, f1, f5, f6]
            repeat (first | (refine T_seqk fun K hK => ?_) | (refine T_reg tOK rfl ?_; simp) | (refine T_ret ?_; try simp) | (refine T_skip ?_; try simp) | (refine T_blockk fun K hK => ?_) | apply_assumption -exfalso -symm | (rw [afterRF_ret]; simp) | (refine T_exit ?_; try simp) | (refine T_cond_t ?_ ?_; · (simp; done)) | (refine T_cond_f ?_ ?_; · (simp; done)) | (rintro _ _ (_ | _) hz9 <;> first | (simp; done) | (simp at hz9; done)) | (refine And.intro ?_ ?_) | (simp only [Post.block_ret, Post.block_exit, Post.block_normal, Post.block_pan, Post.seq_ret, Post.seq_exit, Post.seq_normal, Post.seq_pan]; try simp))
            refine C_write_at (i := 1) (j := 0) (d := ownD ([])) (s := ⟨#[102]⟩) (b := b) ⟨by decide, rfl, rfl⟩ (own_inv hal) szf ?_
            have hI2 := (own_inv hal).write (s := ⟨#[102]⟩) (b := b)
            have hg2 := own_get (a := []) hal hbl
            generalize (write (ownD ([])) ⟨#[102]⟩ b).2 = d2 at hI2 hg2 ⊢
            repeat (first | (refine T_seqk fun K hK => ?_) | (refine T_reg tOK rfl ?_; simp [dkPut]) | (refine T_ret ?_; try simp) | (refine T_skip ?_; try simp) | (refine T_blockk fun K hK => ?_) | apply_assumption -exfalso -symm | (rw [afterRF_ret]; simp [dkPut]) | (refine T_exit ?_; try simp) | (refine T_cond_t ?_ ?_; · (simp; done)) | (refine T_cond_f ?_ ?_; · (simp; done)) | (rintro _ _ (_ | _) hz9 <;> first | (simp; done) | (simp at hz9; done)) | (refine And.intro ?_ ?_) | (simp only [Post.block_ret, Post.block_exit, Post.block_normal, Post.block_pan, Post.seq_ret, Post.seq_exit, Post.seq_normal, Post.seq_pan]; try simp [dkPut]))
            refine C_read_at (i := 1) (j := 0) (d := d2) (s := ⟨#[102]⟩) ⟨by decide, rfl, rfl⟩ hI2 szf ?_
            rw [show (⟨#[102]⟩ : ByteArray).data.toList = [102] from rfl, hg2]
            repeat (first | (refine T_seqk fun K hK => ?_) | (refine T_reg tOK rfl ?_; simp [u8sOf_map',bsz2,happ,hsum]) | (refine T_ret ?_; try simp) | (refine T_skip ?_; try simp) | (refine T_blockk fun K hK => ?_) | apply_assumption -exfalso -symm | (rw [afterRF_ret]; simp [u8sOf_map',bsz2,happ,hsum]) | (refine T_exit ?_; try simp) | (refine T_cond_t ?_ ?_; · (simp; done)) | (refine T_cond_f ?_ ?_; · (simp; done)) | (rintro _ _ (_ | _) hz9 <;> first | (simp; done) | (simp at hz9; done)) | (refine And.intro ?_ ?_) | (simp only [Post.block_ret, Post.block_exit, Post.block_normal, Post.block_pan, Post.seq_ret, Post.seq_exit, Post.seq_normal, Post.seq_pan]; try simp [u8sOf_map',bsz2,happ,hsum]))
            all_goals first | exact h _ | skip
          clear hKc
          refine T_loop (TL_round ?_)
          repeat (first | (refine T_seqk fun K hK => ?_) | (refine T_reg tOK rfl ?_; simp [u8l]) | (refine T_ret ?_; try simp) | (refine T_skip ?_; try simp) | (refine T_blockk fun K hK => ?_) | apply_assumption -exfalso -symm | (rw [afterRF_ret]; simp [u8l]) | (refine T_exit ?_; try simp) | (refine T_cond_t ?_ ?_; · (simp; done)) | (refine T_cond_f ?_ ?_; · (simp; done)) | (rintro _ _ (_ | _) hz9 <;> first | (simp; done) | (simp at hz9; done)) | (refine And.intro ?_ ?_) | (simp only [Post.block_ret, Post.block_exit, Post.block_normal, Post.block_pan, Post.seq_ret, Post.seq_exit, Post.seq_normal, Post.seq_pan]; try simp [u8l]))
          all_goals first | exact tail2.down _ _ rfl rfl rfl rfl | skip
        | cons c a =>
          repeat (first | (refine T_seqk fun K hK => ?_) | (refine T_reg tOK rfl ?_; simp [szf,mget,hske]) | (refine T_ret ?_; try simp) | (refine T_skip ?_; try simp) | (refine T_blockk fun K hK => ?_) | apply_assumption -exfalso -symm | (rw [afterRF_ret]; simp [szf,mget,hske]) | (refine T_exit ?_; try simp) | (refine T_cond_t ?_ ?_; · (simp; done)) | (refine T_cond_f ?_ ?_; · (simp; done)) | (rintro _ _ (_ | _) hz9 <;> first | (simp; done) | (simp at hz9; done)) | (refine And.intro ?_ ?_) | (simp only [Post.block_ret, Post.block_exit, Post.block_normal, Post.block_pan, Post.seq_ret, Post.seq_exit, Post.seq_normal, Post.seq_pan]; try simp [szf,mget,hske]) | (refine C_bodyk tOK Try.func19 rfl (Nat.le_of_ble_eq_true rfl) fun K hK => ?_; simp))
          refine C_cloneR (by simp at hal ⊢; omega) ?_
          repeat (first | (refine T_seqk fun K hK => ?_) | (refine T_reg tOK rfl ?_; simp) | (refine T_ret ?_; try simp) | (refine T_skip ?_; try simp) | (refine T_blockk fun K hK => ?_) | apply_assumption -exfalso -symm | (rw [afterRF_ret]; simp) | (refine T_exit ?_; try simp) | (refine T_cond_t ?_ ?_; · (simp; done)) | (refine T_cond_f ?_ ?_; · (simp; done)) | (rintro _ _ (_ | _) hz9 <;> first | (simp; done) | (simp at hz9; done)) | (refine And.intro ?_ ?_) | (simp only [Post.block_ret, Post.block_exit, Post.block_normal, Post.block_pan, Post.seq_ret, Post.seq_exit, Post.seq_normal, Post.seq_pan]; try simp))
          rename_i Kc hKc Kd hKd
          clear hKd
          have hsum : a.length + 1 + b.length ≤ 9223372036854775807 := by simp at hal; omega
          have tail2 : PLift (∀ fr rest, Fr.get fr 0 = some (.lit (u8l (c :: a))) → Fr.get fr 1 = some (.lit (u8l b)) → Fr.get fr 5 = some (.bool true) → Fr.get fr 6 = some (.ptr 1 0 0 []) → Kc fr (some (.mp 9 [(.string [102], .agg 56 [.lit (u8l (c :: a)), i64 0])]) :: some (.cells 54 0 [.agg 54 [i64 1048576, .map 0, i64 (-1), i64 0]]) :: rest)) := by
            refine ⟨?_⟩
            intro fr rest f0 f1 f5 f6
            apply hKc
            clear hKc hK
            refine T_keep [0, 1, 5, 6] ?_
            simp [Fr.keep, f0, f1, f5, f6]
            repeat (first | (refine T_seqk fun K hK => ?_) | (refine T_reg tOK rfl ?_; simp) | (refine T_ret ?_; try simp) | (refine T_skip ?_; try simp) | (refine T_blockk fun K hK => ?_) | apply_assumption -exfalso -symm | (rw [afterRF_ret]; simp) | (refine T_exit ?_; try simp) | (refine T_cond_t ?_ ?_; · (simp; done)) | (refine T_cond_f ?_ ?_; · (simp; done)) | (rintro _ _ (_ | _) hz9 <;> first | (simp; done) | (simp at hz9; done)) | (refine And.intro ?_ ?_) | (simp only [Post.block_ret, Post.block_exit, Post.block_normal, Post.block_pan, Post.seq_ret, Post.seq_exit, Post.seq_normal, Post.seq_pan]; try simp))
            refine C_write_at (i := 1) (j := 0) (d := ownD (c :: a)) (s := ⟨#[102]⟩) (b := b) ⟨by decide, rfl, rfl⟩ (own_inv hal) szf ?_
            have hI2 := (own_inv hal).write (s := ⟨#[102]⟩) (b := b)
            have hg2 := own_get (a := c :: a) hal hbl
            generalize (write (ownD (c :: a)) ⟨#[102]⟩ b).2 = d2 at hI2 hg2 ⊢
            repeat (first | (refine T_seqk fun K hK => ?_) | (refine T_reg tOK rfl ?_; simp [dkPut]) | (refine T_ret ?_; try simp) | (refine T_skip ?_; try simp) | (refine T_blockk fun K hK => ?_) | apply_assumption -exfalso -symm | (rw [afterRF_ret]; simp [dkPut]) | (refine T_exit ?_; try simp) | (refine T_cond_t ?_ ?_; · (simp; done)) | (refine T_cond_f ?_ ?_; · (simp; done)) | (rintro _ _ (_ | _) hz9 <;> first | (simp; done) | (simp at hz9; done)) | (refine And.intro ?_ ?_) | (simp only [Post.block_ret, Post.block_exit, Post.block_normal, Post.block_pan, Post.seq_ret, Post.seq_exit, Post.seq_normal, Post.seq_pan]; try simp [dkPut]))
            refine C_read_at (i := 1) (j := 0) (d := d2) (s := ⟨#[102]⟩) ⟨by decide, rfl, rfl⟩ hI2 szf ?_
            rw [show (⟨#[102]⟩ : ByteArray).data.toList = [102] from rfl, hg2]
            repeat (first | (refine T_seqk fun K hK => ?_) | (refine T_reg tOK rfl ?_; simp [u8sOf_map',bsz2,happ,hsum]) | (refine T_ret ?_; try simp) | (refine T_skip ?_; try simp) | (refine T_blockk fun K hK => ?_) | apply_assumption -exfalso -symm | (rw [afterRF_ret]; simp [u8sOf_map',bsz2,happ,hsum]) | (refine T_exit ?_; try simp) | (refine T_cond_t ?_ ?_; · (simp; done)) | (refine T_cond_f ?_ ?_; · (simp; done)) | (rintro _ _ (_ | _) hz9 <;> first | (simp; done) | (simp at hz9; done)) | (refine And.intro ?_ ?_) | (simp only [Post.block_ret, Post.block_exit, Post.block_normal, Post.block_pan, Post.seq_ret, Post.seq_exit, Post.seq_normal, Post.seq_pan]; try simp [u8sOf_map',bsz2,happ,hsum]))
            all_goals first | exact h _ | skip
          clear hKc
          refine T_loop ?_
          refine TL_fall (fr' := [(0, .lit (u8l (c :: a))), (1, .lit (u8l b)), (5, .bool true), (6, .ptr 1 0 0 []), (9, .ref 4 1 0 (a.length + 1)), (11, i64 0)])
            (σ' := [some (.mp 9 [(.string [102], .agg 56 [.lit (u8l (c :: a)), i64 0])]), some (.cells 54 0 [.agg 54 [i64 1048576, .map 0, i64 (-1), i64 0]]), some (.cells 5 1 ys), some (.cells 56 0 [.agg 56 [.lit (u8l (c :: a)), i64 0]]), some (.cells 5 1 (u8l (c :: a)))]) 5 [0, 1, 5, 6, 9, 11] (Nat.zero_le _) ?_ ?_ ?_ ?_ ?_
          · simp [Fr.keep]
          · simp [belowFr, belowB]
          · rfl
          · exact below5 _ (by simp [belowStore, belowBlk, belowL, belowB, hy5]) (belowL_of_pure 5 _ (pureL_u8l _))
          refine (?key2 : ∀ (m k : Nat) (ki : Int) (j2 j3 : Option Blk) (zs : List PV), k + m = a.length + 1 → ki = (k : Int) → zs.length = a.length + 1 → (∀ (j : Nat) y, zs[j]? = some y → ∃ n, y = PV.int .u8 n) → belowStore 5 [j2, j3] = true →
            TL tE _ _ _ _ [(0, .lit (u8l (c :: a))), (1, .lit (u8l b)), (5, .bool true), (6, .ptr 1 0 0 []), (9, .ref 4 1 0 (a.length + 1)), (11, i64 ki)]
              [some (.mp 9 [(.string [102], .agg 56 [.lit (u8l (c :: a)), i64 0])]), some (.cells 54 0 [.agg 54 [i64 1048576, .map 0, i64 (-1), i64 0]]), j2, j3, some (.cells 5 1 zs)]) (a.length + 1) 0 0 _ _ (u8l (c :: a)) (by omega) rfl (u8lenO (c :: a)) (bytes_ints (c :: a)) (by simp [belowStore, belowBlk, belowL, belowB, hy5])
          intro m
          induction m with
          | zero =>
            intro k ki j2 j3 zs hkm hki hzl hzb hj
            have hk0 : decide (ki < (a.length : Int) + 1) = false := by rw [decide_eq_false_iff_not]; omega
            refine TL_round ?_
            repeat (first | (refine T_seqk fun K hK => ?_) | (refine T_reg tOK rfl ?_; simp [hk0]) | (refine T_ret ?_; try simp) | (refine T_skip ?_; try simp) | (refine T_blockk fun K hK => ?_) | apply_assumption -exfalso -symm | (rw [afterRF_ret]; simp [hk0]) | (refine T_exit ?_; try simp) | (refine T_cond_t ?_ ?_; · (simp; done)) | (refine T_cond_f ?_ ?_; · (simp; done)) | (rintro _ _ (_ | _) hz9 <;> first | (simp; done) | (simp at hz9; done)) | (refine And.intro ?_ ?_) | (simp only [Post.block_ret, Post.block_exit, Post.block_normal, Post.block_pan, Post.seq_ret, Post.seq_exit, Post.seq_normal, Post.seq_pan]; try simp [hk0]))
            exact tail2.down _ _ rfl rfl rfl rfl
          | succ m ih =>
            intro k ki j2 j3 zs hkm hki hzl hzb hj
            have hk0 : decide (ki < (a.length : Int) + 1) = true := by rw [decide_eq_true_eq]; omega
            have hlt : k < zs.length := by omega
            obtain ⟨v, hv⟩ := hzb k zs[k] (List.getElem?_eq_getElem hlt)
            have hyk : zs[k]? = some (.int .u8 v) := by rw [List.getElem?_eq_getElem hlt, hv]
            have hkt : ki.toNat = k := by omega
            have hk00 : 0 ≤ ki := by omega
            have hkl : ki < (a.length : Int) + 1 := by omega
            have hyl' : a.length + 1 ≤ zs.length := by omega
            have hwk : IntKind.i64.wrap (ki + 1) = ki + 1 := IntWalk.i64_in _ (by simp at hal; omega)
            have hih := ih (k + 1) (ki + 1) j2 j3 (zs.set k (.int .u8 (IntKind.u8.wrap (v + 1)))) (by omega) (by omega) (by simpa using hzl) (set_ints hzb) hj
            have hsb : belowL 5 (zs.set k (.int .u8 (IntKind.u8.wrap (v + 1)))) = true := below_ints (set_ints hzb)
            clear ih hzb hv hlt
            refine TL_round ?_
            repeat (first | (refine T_seqk fun K hK => ?_) | (refine T_reg tOK rfl ?_; simp [hk0,hk00,hkt,hkl,hyk,hyl',hwk]) | (refine T_ret ?_; try simp) | (refine T_skip ?_; try simp) | (refine T_blockk fun K hK => ?_) | apply_assumption -exfalso -symm | (rw [afterRF_ret]; simp [hk0,hk00,hkt,hkl,hyk,hyl',hwk]) | (refine T_exit ?_; try simp) | (refine T_cond_t ?_ ?_; · (simp; done)) | (refine T_cond_f ?_ ?_; · (simp; done)) | (rintro _ _ (_ | _) hz9 <;> first | (simp; done) | (simp at hz9; done)) | (refine And.intro ?_ ?_) | (simp only [Post.block_ret, Post.block_exit, Post.block_normal, Post.block_pan, Post.seq_ret, Post.seq_exit, Post.seq_normal, Post.seq_pan]; try simp [hk0,hk00,hkt,hkl,hyk,hyl',hwk]))
            refine TL_fall 5 [0, 1, 5, 6, 9, 11] (Nat.zero_le _) ?_ ?_ ?_ ?_ hih
            · simp [Fr.keep]
            · simp [belowFr, belowB]
            · rfl
            · exact below5 _ hj hsb
      clear hKa
      refine T_loop ?_
      refine TL_fall (fr' := [(0, .lit (u8l a)), (1, .lit (u8l b)), (5, .bool true), (6, .ptr 1 0 0 []), (7, .ref 2 1 0 a.length), (8, i64 0)])
        (σ' := [some (.mp 9 [(.string [102], .agg 56 [.lit (u8l a), i64 0])]), some (.cells 54 0 [.agg 54 [i64 1048576, .map 0, i64 (-1), i64 0]]), some (.cells 5 1 (u8l a))]) 3 [0, 1, 5, 6, 7, 8] (Nat.zero_le _) ?_ ?_ ?_ ?_ ?_
      · simp [Fr.keep]
      · simp [belowFr, belowB]
      · rfl
      · simp [belowStore, belowBlk, belowL, belowB, belowL_of_pure 3 _ (pureL_u8l a)]
      refine (?key1 : ∀ (m k : Nat) (ki : Int) (ys : List PV), k + m = a.length → ki = (k : Int) → ys.length = a.length → (∀ (j : Nat) y, ys[j]? = some y → ∃ n, y = PV.int .u8 n) →
        TL tE _ _ _ _ [(0, .lit (u8l a)), (1, .lit (u8l b)), (5, .bool true), (6, .ptr 1 0 0 []), (7, .ref 2 1 0 a.length), (8, i64 ki)]
          [some (.mp 9 [(.string [102], .agg 56 [.lit (u8l a), i64 0])]), some (.cells 54 0 [.agg 54 [i64 1048576, .map 0, i64 (-1), i64 0]]), some (.cells 5 1 ys)]) a.length 0 0 (u8l a) (by omega) rfl (u8lenO a) (bytes_ints a)
      intro m
      induction m with
      | zero =>
        intro k ki ys hkm hki hyl hyb
        have hk0 : decide (ki < (a.length : Int)) = false := by rw [decide_eq_false_iff_not]; omega
        refine TL_round ?_
        repeat (first | (refine T_seqk fun K hK => ?_) | (refine T_reg tOK rfl ?_; simp [hk0]) | (refine T_ret ?_; try simp) | (refine T_skip ?_; try simp) | (refine T_blockk fun K hK => ?_) | apply_assumption -exfalso -symm | (rw [afterRF_ret]; simp [hk0]) | (refine T_exit ?_; try simp) | (refine T_cond_t ?_ ?_; · (simp; done)) | (refine T_cond_f ?_ ?_; · (simp; done)) | (rintro _ _ (_ | _) hz9 <;> first | (simp; done) | (simp at hz9; done)) | (refine And.intro ?_ ?_) | (simp only [Post.block_ret, Post.block_exit, Post.block_normal, Post.block_pan, Post.seq_ret, Post.seq_exit, Post.seq_normal, Post.seq_pan]; try simp [hk0]))
        exact tail1.down _ ys hyb rfl rfl rfl rfl
      | succ m ih =>
        intro k ki ys hkm hki hyl hyb
        have hk0 : decide (ki < (a.length : Int)) = true := by rw [decide_eq_true_eq]; omega
        have hlt : k < ys.length := by omega
        obtain ⟨v, hv⟩ := hyb k ys[k] (List.getElem?_eq_getElem hlt)
        have hyk : ys[k]? = some (.int .u8 v) := by rw [List.getElem?_eq_getElem hlt, hv]
        have hkt : ki.toNat = k := by omega
        have hk00 : 0 ≤ ki := by omega
        have hkl : ki < (a.length : Int) := by omega
        have hyl' : a.length ≤ ys.length := by omega
        have hwk : IntKind.i64.wrap (ki + 1) = ki + 1 := IntWalk.i64_in _ (by omega)
        have hih := ih (k + 1) (ki + 1) (ys.set k (.int .u8 (IntKind.u8.wrap (v + 1)))) (by omega) (by omega) (by simpa using hyl) (set_ints hyb)
        have hsb : belowL 3 (ys.set k (.int .u8 (IntKind.u8.wrap (v + 1)))) = true := below_ints (set_ints hyb)
        clear ih hyb hv hlt
        refine TL_round ?_
        repeat (first | (refine T_seqk fun K hK => ?_) | (refine T_reg tOK rfl ?_; simp [hk0,hk00,hkt,hkl,hyk,hyl',hwk]) | (refine T_ret ?_; try simp) | (refine T_skip ?_; try simp) | (refine T_blockk fun K hK => ?_) | apply_assumption -exfalso -symm | (rw [afterRF_ret]; simp [hk0,hk00,hkt,hkl,hyk,hyl',hwk]) | (refine T_exit ?_; try simp) | (refine T_cond_t ?_ ?_; · (simp; done)) | (refine T_cond_f ?_ ?_; · (simp; done)) | (rintro _ _ (_ | _) hz9 <;> first | (simp; done) | (simp at hz9; done)) | (refine And.intro ?_ ?_) | (simp only [Post.block_ret, Post.block_exit, Post.block_normal, Post.block_pan, Post.seq_ret, Post.seq_exit, Post.seq_normal, Post.seq_pan]; try simp [hk0,hk00,hkt,hkl,hyk,hyl',hwk]))
        refine TL_fall 3 [0, 1, 5, 6, 7, 8] (Nat.zero_le _) ?_ ?_ ?_ ?_ hih
        · simp [Fr.keep]
        · simp [belowFr, belowB]
        · rfl
        · simp [belowStore, belowBlk, belowL, belowB, belowL_of_pure 3 _ (pureL_u8l a), hsb]
end
end Go.Proofs.Ythllcknfidnfaaa
