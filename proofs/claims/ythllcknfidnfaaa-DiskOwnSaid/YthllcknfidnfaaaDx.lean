/- With a fuse of so many calls just so many are done. -/
import Derived.Test.YthllcknfidnfaaaDw
set_option linter.unusedVariables false
set_option linter.unusedSimpArgs false
set_option maxRecDepth 4000
namespace Go.Proofs.Ythllcknfidnfaaa
open Go
attribute [local simp] RF_nil RF_cons afterRF_ret nilCmp sop sGuard isCall sCallee Fr.eval Fr.get Fr.put ofConst sLoad sStore sBuiltin Fr.args bodyQ sRes oneOf sBin sInt sUn
attribute [local simp] RD_nil RD_cons noConf clear accAdd Tab.pr Tab.slot foot wid idOf refId Op.operands Call.operands sFieldAddr sNilCheck sLookup keyLit sMapSet sMapDel sLen Store.at Store.new getP setP typeAt fits evalParts sBuildSlice sFill sList sApp sAppend frzRe frz pureB pureL
attribute [local simp] optEval sSlice sIndexAddr

theorem burn_fuse {d : Dk} (h : Inv d) (hf : (d.fuse == 0) = false) : (burn d).fuse = max (d.fuse - 1) (-1) := rfl
theorem sync_dead {d : Dk} {s : ByteArray} : ((sync d s).1 == 42) = (d.fuse == 0) ∧ (sync d s).2.fuse = if d.fuse == 0 then d.fuse else max (d.fuse - 1) (-1) := by
  unfold sync
  cases hf : d.fuse == 0
  · simp only [Bool.false_eq_true, if_false]
    split
    · exact ⟨rfl, rfl⟩
    · split <;> exact ⟨rfl, rfl⟩
  · exact ⟨rfl, rfl⟩
theorem delete_dead {d : Dk} {s : ByteArray} : ((delete d s).1 == 42) = (d.fuse == 0) ∧ (delete d s).2.fuse = if d.fuse == 0 then d.fuse else max (d.fuse - 1) (-1) := by
  unfold delete
  cases hf : d.fuse == 0
  · simp only [Bool.false_eq_true, if_false]
    split <;> exact ⟨rfl, rfl⟩
  · exact ⟨rfl, rfl⟩
theorem rename_dead {d : Dk} {s t : ByteArray} : ((rename d s t).1 == 42) = (d.fuse == 0) ∧ (rename d s t).2.fuse = if d.fuse == 0 then d.fuse else max (d.fuse - 1) (-1) := by
  unfold rename
  cases hf : d.fuse == 0
  · simp only [Bool.false_eq_true, if_false]
    split
    · exact ⟨rfl, rfl⟩
    · split <;> exact ⟨rfl, rfl⟩
  · exact ⟨rfl, rfl⟩
theorem write_dead {d : Dk} {s : ByteArray} {b : List UInt8} : ((write d s b).1 == 42) = (d.fuse == 0) ∧ (write d s b).2.fuse = if d.fuse == 0 then d.fuse else max (d.fuse - 1) (-1) := by
  unfold write
  cases hf : d.fuse == 0
  · simp only [Bool.false_eq_true, if_false]
    split
    · exact ⟨rfl, rfl⟩
    · split
      · split
        · exact ⟨rfl, rfl⟩
        · split <;> exact ⟨rfl, rfl⟩
      · split <;> exact ⟨rfl, rfl⟩
  · exact ⟨rfl, rfl⟩
/-- Is it Fuse, Fail, or Crash? -/
def aside (o : OpV) : Bool := decide (7 ≤ o.what) && decide (o.what ≤ 9)
theorem doOp_dead {d : Dk} {o : OpV} (h : aside o = false) : ((doOp d o).1 == 42) = (d.fuse == 0) ∧ (doOp d o).2.fuse = if d.fuse == 0 then d.fuse else max (d.fuse - 1) (-1) := by
  unfold aside at h
  unfold doOp
  split
  · exact sync_dead
  split
  · exact rename_dead
  split
  · exact delete_dead
  split
  · rename_i h7; simp only [beq_iff_eq] at h7; simp [h7] at h
  split
  · rename_i h8; simp only [beq_iff_eq] at h8; simp [h8] at h
  split
  · rename_i h9; simp only [beq_iff_eq] at h9; simp [h9] at h
  exact write_dead

section
variable {R : Re → Store → Prop} {l : List OpV} {n : Int}
set_option maxHeartbeats 1000000 in
theorem C_still_law (hn0 : 0 ≤ n) (hn1 : n ≤ 255) (hl : l.length ≤ 9223372036854775807) (hO : ∀ o ∈ l, o.OK) (h : ∀ σ, R (.ret (.bool true)) σ) : C tE 4 [.int .u8 n, .lit (encOps l)] [] R := by
  have hwn : IntKind.i64.wrap n = n := IntWalk.i64_in _ (by omega)
  have hll : (encOps l).length = l.length := by simp [encOps]
  refine C_bodyk tOK Try.func4 rfl (Nat.le_of_ble_eq_true rfl) fun K hK => ?_; simp
  repeat (first | (refine T_seqk fun K hK => ?_) | (refine T_reg tOK rfl ?_; simp) | (refine T_ret ?_; try simp) | (refine T_skip ?_; try simp) | (refine T_blockk fun K hK => ?_) | apply_assumption -exfalso -symm | (rw [afterRF_ret]; simp) | (refine T_exit ?_; try simp) | (refine T_cond_t ?_ ?_; · (simp; done)) | (refine T_cond_f ?_ ?_; · (simp; done)) | (rintro _ _ (_ | _) hz9 <;> first | (simp; done) | (simp at hz9; done)) | (refine And.intro ?_ ?_) | (simp only [Post.block_ret, Post.block_exit, Post.block_normal, Post.block_pan, Post.seq_ret, Post.seq_exit, Post.seq_normal, Post.seq_pan]; try simp) | (refine C_head ?_; simp))
  refine C_new_ok rfl rfl ?_
  repeat (first | (refine T_seqk fun K hK => ?_) | (refine T_reg tOK rfl ?_; simp) | (refine T_ret ?_; try simp) | (refine T_skip ?_; try simp) | (refine T_blockk fun K hK => ?_) | apply_assumption -exfalso -symm | (rw [afterRF_ret]; simp) | (refine T_exit ?_; try simp) | (refine T_cond_t ?_ ?_; · (simp; done)) | (refine T_cond_f ?_ ?_; · (simp; done)) | (rintro _ _ (_ | _) hz9 <;> first | (simp; done) | (simp at hz9; done)) | (refine And.intro ?_ ?_) | (simp only [Post.block_ret, Post.block_exit, Post.block_normal, Post.block_pan, Post.seq_ret, Post.seq_exit, Post.seq_normal, Post.seq_pan]; try simp))
  refine C_great (by omega) ?_
  cases hg : great l with
  | true =>
    repeat (first | (refine T_seqk fun K hK => ?_) | (refine T_reg tOK rfl ?_; simp) | (refine T_ret ?_; try simp) | (refine T_skip ?_; try simp) | (refine T_blockk fun K hK => ?_) | apply_assumption -exfalso -symm | (rw [afterRF_ret]; simp) | (refine T_exit ?_; try simp) | (refine T_cond_t ?_ ?_; · (simp; done)) | (refine T_cond_f ?_ ?_; · (simp; done)) | (rintro _ _ (_ | _) hz9 <;> first | (simp; done) | (simp at hz9; done)) | (refine And.intro ?_ ?_) | (simp only [Post.block_ret, Post.block_exit, Post.block_normal, Post.block_pan, Post.seq_ret, Post.seq_exit, Post.seq_normal, Post.seq_pan]; try simp))
  | false =>
    have hl3 : l.length ≤ 300 := by
      unfold great at hg
      simp only [Bool.or_eq_false_iff, decide_eq_false_iff_not] at hg
      omega
    repeat (first | (refine T_seqk fun K hK => ?_) | (refine T_reg tOK rfl ?_; simp [hwn]) | (refine T_ret ?_; try simp) | (refine T_skip ?_; try simp) | (refine T_blockk fun K hK => ?_) | apply_assumption -exfalso -symm | (rw [afterRF_ret]; simp [hwn]) | (refine T_exit ?_; try simp) | (refine T_cond_t ?_ ?_; · (simp; done)) | (refine T_cond_f ?_ ?_; · (simp; done)) | (rintro _ _ (_ | _) hz9 <;> first | (simp; done) | (simp at hz9; done)) | (refine And.intro ?_ ?_) | (simp only [Post.block_ret, Post.block_exit, Post.block_normal, Post.block_pan, Post.seq_ret, Post.seq_exit, Post.seq_normal, Post.seq_pan]; try simp [hwn]))
    refine C_fuse_at (i := 1) (j := 0) (d := ⟨900, [], -1, 0⟩) ⟨by decide, rfl, rfl⟩ ?_
    repeat (first | (refine T_seqk fun K hK => ?_) | (refine T_reg tOK rfl ?_; simp [dkPut]) | (refine T_ret ?_; try simp) | (refine T_skip ?_; try simp) | (refine T_blockk fun K hK => ?_) | apply_assumption -exfalso -symm | (rw [afterRF_ret]; simp [dkPut]) | (refine T_exit ?_; try simp) | (refine T_cond_t ?_ ?_; · (simp; done)) | (refine T_cond_f ?_ ?_; · (simp; done)) | (rintro _ _ (_ | _) hz9 <;> first | (simp; done) | (simp at hz9; done)) | (refine And.intro ?_ ?_) | (simp only [Post.block_ret, Post.block_exit, Post.block_normal, Post.block_pan, Post.seq_ret, Post.seq_exit, Post.seq_normal, Post.seq_pan]; try simp [dkPut]))
    have hiv : Inv (setFuse ⟨900, [], -1, 0⟩ n) := (Inv.new (by decide) (by decide)).setFuse (by omega)
    have hfu : (setFuse ⟨900, [], -1, 0⟩ n).fuse = max (n - 0) 0 := by simp only [setFuse]; omega
    generalize setFuse ⟨900, [], -1, 0⟩ n = d0 at hiv hfu
    refine T_loop ?_
    refine TL_keep [0, 1, 5, 6, 7, 8] ?_
    simp [Fr.keep]
    refine (?key : ∀ (r : List OpV) (k : Nat) (many : Int) (d : Dk), l.drop k = r → 0 ≤ many → many ≤ k → Inv d → d.fuse = max (n - many) 0 →
      TL tE _ _ _ _ [(0, .int .u8 n), (1, .lit (encOps l)), (5, .bool true), (6, .ptr 1 0 0 []), (7, i64 many), (8, i64 k)] [some (dkM d), some (dkBj d 0)]) l 0 0 d0 rfl (by omega) (by omega) hiv hfu
    intro r
    induction r with
    | nil =>
      intro k many d hdrop hm0 hm1 hI hF
      have hk0 : decide (k < l.length) = false := by
        have := List.drop_eq_nil_iff.1 hdrop
        rw [decide_eq_false_iff_not]; omega
      refine TL_round ?_
      repeat (first | (refine T_seqk fun K hK => ?_) | (refine T_reg tOK rfl ?_; simp [hk0,hll]) | (refine T_ret ?_; try simp) | (refine T_skip ?_; try simp) | (refine T_blockk fun K hK => ?_) | apply_assumption -exfalso -symm | (rw [afterRF_ret]; simp [hk0,hll]) | (refine T_exit ?_; try simp) | (refine T_cond_t ?_ ?_; · (simp; done)) | (refine T_cond_f ?_ ?_; · (simp; done)) | (rintro _ _ (_ | _) hz9 <;> first | (simp; done) | (simp at hz9; done)) | (refine And.intro ?_ ?_) | (simp only [Post.block_ret, Post.block_exit, Post.block_normal, Post.block_pan, Post.seq_ret, Post.seq_exit, Post.seq_normal, Post.seq_pan]; try simp [hk0,hll]))
      refine C_weak (args' := [.ptr 1 0 0 [], .lit (ints [])]) (fun c vs hv => VL_nils (xs := [.ptr 1 0 0 []]) hv) ?_
      refine C_crash_at (i := 1) (j := 0) (d := d) (keep := []) ⟨by decide, rfl, rfl⟩ hI (by simp) (by simp) ?_
      repeat (first | (refine T_seqk fun K hK => ?_) | (refine T_reg tOK rfl ?_; simp [dkPut]) | (refine T_ret ?_; try simp) | (refine T_skip ?_; try simp) | (refine T_blockk fun K hK => ?_) | apply_assumption -exfalso -symm | (rw [afterRF_ret]; simp [dkPut]) | (refine T_exit ?_; try simp) | (refine T_cond_t ?_ ?_; · (simp; done)) | (refine T_cond_f ?_ ?_; · (simp; done)) | (rintro _ _ (_ | _) hz9 <;> first | (simp; done) | (simp at hz9; done)) | (refine And.intro ?_ ?_) | (simp only [Post.block_ret, Post.block_exit, Post.block_normal, Post.block_pan, Post.seq_ret, Post.seq_exit, Post.seq_normal, Post.seq_pan]; try simp [dkPut]))
      refine C_weak (args' := [.ptr 1 0 0 [], .str (txt [97]), u8s []]) (fun c vs h => VL_nils (xs := [.ptr 1 0 0 [], .str (txt [97])]) h) ?_
      refine C_write_at (i := 1) (j := 0) (d := crash d []) (s := txt [97]) (b := []) ⟨by decide, rfl, rfl⟩ hI.crash h1 ?_
      have hw := (write_dead (d := crash d []) (s := txt [97]) (b := [])).1
      have hw' : ((crash d []).fuse == 0) = false := rfl
      have hw2 : ((write (crash d []) (txt [97]) []).1 != 42) = true := by rw [bne, hw, hw']; rfl
      repeat (first | (refine T_seqk fun K hK => ?_) | (refine T_reg tOK rfl ?_; simp) | (refine T_ret ?_; try simp) | (refine T_skip ?_; try simp) | (refine T_blockk fun K hK => ?_) | apply_assumption -exfalso -symm | (rw [afterRF_ret]; simp) | (refine T_exit ?_; try simp) | (refine T_cond_t ?_ ?_; · (simp; done)) | (refine T_cond_f ?_ ?_; · (simp; done)) | (rintro _ _ (_ | _) hz9 <;> first | (simp; done) | (simp at hz9; done)) | (refine And.intro ?_ ?_) | (simp only [Post.block_ret, Post.block_exit, Post.block_normal, Post.block_pan, Post.seq_ret, Post.seq_exit, Post.seq_normal, Post.seq_pan]; try simp))
      rw [hw2]
      exact h _
    | cons o r ih =>
      intro k many d hdrop hm0 hm1 hI hF
      have hkl : k < l.length := by
        rcases Nat.lt_or_ge k l.length with h | h
        · exact h
        · rw [List.drop_eq_nil_iff.2 h] at hdrop; simp at hdrop
      have hdrop' : l.drop (k + 1) = r := by
        have := congrArg (List.drop 1) hdrop
        simpa [List.drop_drop] using this
      have hlk : l[k]? = some o := by
        have := List.getElem?_drop (xs := l) (i := k) (j := 0)
        rw [hdrop] at this; simpa using this.symm
      have ho := hO o (List.mem_of_getElem? hlk)
      have hek : (encOps l)[k]? = some (encOp o) := by simp [encOps, hlk]
      have hk0 : decide (k < l.length) = true := by simpa using hkl
      have hwk : IntKind.i64.wrap ((k : Int) + 1) = ((k + 1 : Nat) : Int) := by rw [IntWalk.i64_in _ (by omega)]; omega
      have hwm : IntKind.i64.wrap (many + 1) = many + 1 := IntWalk.i64_in _ (by omega)
      cases ha : aside o with
      | true =>
        have h7 : decide (7 ≤ o.what) = true := by unfold aside at ha; simp only [Bool.and_eq_true] at ha; exact ha.1
        have h9 : decide (o.what ≤ 9) = true := by unfold aside at ha; simp only [Bool.and_eq_true] at ha; exact ha.2
        refine TL_round ?_
        repeat (first | (refine T_seqk fun K hK => ?_) | (refine T_reg tOK rfl ?_; simp [hk0,hll,hek,hwk,h7,h9,encOp]) | (refine T_ret ?_; try simp) | (refine T_skip ?_; try simp) | (refine T_blockk fun K hK => ?_) | apply_assumption -exfalso -symm | (rw [afterRF_ret]; simp [hk0,hll,hek,hwk,h7,h9,encOp]) | (refine T_exit ?_; try simp) | (refine T_cond_t ?_ ?_; · (simp; done)) | (refine T_cond_f ?_ ?_; · (simp; done)) | (rintro _ _ (_ | _) hz9 <;> first | (simp; done) | (simp at hz9; done)) | (refine And.intro ?_ ?_) | (simp only [Post.block_ret, Post.block_exit, Post.block_normal, Post.block_pan, Post.seq_ret, Post.seq_exit, Post.seq_normal, Post.seq_pan]; try simp [hk0,hll,hek,hwk,h7,h9,encOp]))
        refine TL_fall 2 [0, 1, 5, 6, 7, 8] (Nat.zero_le _) ?_ ?_ ?_ ?_ (ih (k + 1) many d hdrop' hm0 (by omega) hI hF)
        · simp [Fr.keep]
        · simp [belowFr, belowB]
        · rfl
        · simp only [belowStore, belowBlk, dkM, List.all_cons, encFs_below]; simp [dkBj, belowBlk, belowL, belowB]
      | false =>
        have hd1 := (doOp_dead (d := d) ha).1
        have hd2 := (doOp_dead (d := d) ha).2
        have hI' := hI.doOp ho
        have hF' : (doOp d o).2.fuse = max (n - (many + 1)) 0 := by
          rw [hd2]
          split
          · rename_i h0; simp only [beq_iff_eq] at h0; omega
          · rename_i h0; simp only [beq_iff_eq] at h0; omega
        have hcmp : ((doOp d o).1 == 42) = decide (n ≤ many) := by
          rw [hd1, Bool.eq_iff_iff]; simp only [beq_iff_eq, decide_eq_true_eq]; omega
        have hall : 7 ≤ o.what → (decide (o.what ≤ 9) = false) := fun h => by
          unfold aside at ha; simp only [h, decide_true, Bool.true_and] at ha; exact ha
        cases h7 : decide (7 ≤ o.what) with
        | true =>
          have h9 := hall (by simpa using h7)
          clear hall
          refine TL_round ?_
          repeat (first | (refine T_seqk fun K hK => ?_) | (refine T_reg tOK rfl ?_; simp [hk0,hll,hek,h7,h9,encOp]) | (refine T_ret ?_; try simp) | (refine T_skip ?_; try simp) | (refine T_blockk fun K hK => ?_) | apply_assumption -exfalso -symm | (rw [afterRF_ret]; simp [hk0,hll,hek,h7,h9,encOp]) | (refine T_exit ?_; try simp) | (refine T_cond_t ?_ ?_; · (simp; done)) | (refine T_cond_f ?_ ?_; · (simp; done)) | (rintro _ _ (_ | _) hz9 <;> first | (simp; done) | (simp at hz9; done)) | (refine And.intro ?_ ?_) | (simp only [Post.block_ret, Post.block_exit, Post.block_normal, Post.block_pan, Post.seq_ret, Post.seq_exit, Post.seq_normal, Post.seq_pan]; try simp [hk0,hll,hek,h7,h9,encOp]))
          refine C_do_at (i := 1) (j := 0) (d := d) (o := o) ⟨by decide, rfl, rfl⟩ hI ho ?_
          repeat (first | (refine T_seqk fun K hK => ?_) | (refine T_reg tOK rfl ?_; simp [dkPut,hcmp,hwn,hwm,hwk]) | (refine T_ret ?_; try simp) | (refine T_skip ?_; try simp) | (refine T_blockk fun K hK => ?_) | apply_assumption -exfalso -symm | (rw [afterRF_ret]; simp [dkPut,hcmp,hwn,hwm,hwk]) | (refine T_exit ?_; try simp) | (refine T_cond_t ?_ ?_; · (simp; done)) | (refine T_cond_f ?_ ?_; · (simp; done)) | (rintro _ _ (_ | _) hz9 <;> first | (simp; done) | (simp at hz9; done)) | (refine And.intro ?_ ?_) | (simp only [Post.block_ret, Post.block_exit, Post.block_normal, Post.block_pan, Post.seq_ret, Post.seq_exit, Post.seq_normal, Post.seq_pan]; try simp [dkPut,hcmp,hwn,hwm,hwk]))
          refine TL_fall 2 [0, 1, 5, 6, 7, 8] (Nat.zero_le _) ?_ ?_ ?_ ?_ (ih (k + 1) (many + 1) (doOp d o).2 hdrop' (by omega) (by omega) hI' hF')
          · simp [Fr.keep]
          · simp [belowFr, belowB]
          · rfl
          · simp only [belowStore, belowBlk, dkM, List.all_cons, encFs_below]; simp [dkBj, belowBlk, belowL, belowB]
        | false =>
          clear hall
          refine TL_round ?_
          repeat (first | (refine T_seqk fun K hK => ?_) | (refine T_reg tOK rfl ?_; simp [hk0,hll,hek,h7,encOp]) | (refine T_ret ?_; try simp) | (refine T_skip ?_; try simp) | (refine T_blockk fun K hK => ?_) | apply_assumption -exfalso -symm | (rw [afterRF_ret]; simp [hk0,hll,hek,h7,encOp]) | (refine T_exit ?_; try simp) | (refine T_cond_t ?_ ?_; · (simp; done)) | (refine T_cond_f ?_ ?_; · (simp; done)) | (rintro _ _ (_ | _) hz9 <;> first | (simp; done) | (simp at hz9; done)) | (refine And.intro ?_ ?_) | (simp only [Post.block_ret, Post.block_exit, Post.block_normal, Post.block_pan, Post.seq_ret, Post.seq_exit, Post.seq_normal, Post.seq_pan]; try simp [hk0,hll,hek,h7,encOp]))
          refine C_do_at (i := 1) (j := 0) (d := d) (o := o) ⟨by decide, rfl, rfl⟩ hI ho ?_
          repeat (first | (refine T_seqk fun K hK => ?_) | (refine T_reg tOK rfl ?_; simp [dkPut,hcmp,hwn,hwm,hwk]) | (refine T_ret ?_; try simp) | (refine T_skip ?_; try simp) | (refine T_blockk fun K hK => ?_) | apply_assumption -exfalso -symm | (rw [afterRF_ret]; simp [dkPut,hcmp,hwn,hwm,hwk]) | (refine T_exit ?_; try simp) | (refine T_cond_t ?_ ?_; · (simp; done)) | (refine T_cond_f ?_ ?_; · (simp; done)) | (rintro _ _ (_ | _) hz9 <;> first | (simp; done) | (simp at hz9; done)) | (refine And.intro ?_ ?_) | (simp only [Post.block_ret, Post.block_exit, Post.block_normal, Post.block_pan, Post.seq_ret, Post.seq_exit, Post.seq_normal, Post.seq_pan]; try simp [dkPut,hcmp,hwn,hwm,hwk]))
          refine TL_fall 2 [0, 1, 5, 6, 7, 8] (Nat.zero_le _) ?_ ?_ ?_ ?_ (ih (k + 1) (many + 1) (doOp d o).2 hdrop' (by omega) (by omega) hI' hF')
          · simp [Fr.keep]
          · simp [belowFr, belowB]
          · rfl
          · simp only [belowStore, belowBlk, dkM, List.all_cons, encFs_below]; simp [dkBj, belowBlk, belowL, belowB]
end
end Go.Proofs.Ythllcknfidnfaaa
