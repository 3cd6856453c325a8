/- The statements' own functions: Do, Great; New where it may not be. -/
import Derived.Test.YtdplbgfokoajjaaGreatXi
import Derived.Test.YtdplbgfokoajjaaGreatXd
import Derived.Test.YtdplbgfokoajjaaGreatRows
import Derived.ProofKit
section
set_option linter.unusedVariables false
set_option linter.unusedSimpArgs false
set_option maxRecDepth 20000
namespace Go.Proofs.YtdplbgfokoajjaaGreat
open Go
attribute [local simp] RF_nil RF_cons afterRF_ret nilCmp sop sGuard isCall sCallee Fr.eval Fr.get Fr.put ofConst sLoad sStore sBuiltin Fr.args bodyQ sRes oneOf sBin sInt sUn
attribute [local simp] RD_nil RD_cons noConf clear accAdd Tab.pr Tab.slot foot wid idOf refId Op.operands Call.operands sFieldAddr sNilCheck sLookup keyLit sMapSet sMapDel sLen Store.at Store.new getP setP typeAt fits evalParts sBuildSlice sFill sList sApp sAppend frzRe frz pureB pureL
attribute [local simp] dkB dkS u8s optEval sSlice sIndexAddr
def encOp (o : OpV) : PV := .agg 35 [i64 o.what, .str o.name, .str o.to, u8s o.b, i64 o.n, .lit (ints o.keep)]
section
variable {R : Re → Store → Prop} {σ : Store} {d : Dk} {s t : ByteArray} {b : List UInt8} {keep : List Int} {i j : Nat} {n : Int} {o : OpV}
theorem C_sync_at (h0 : DkAt σ i j d) (hI : Inv d) (hs : s.size ≤ maxLen) (h : R (.ret (i64 (sync d s).1)) (dkPut σ i j (sync d s).2)) : C tE 25 [.ptr i 0 0 [], .str s] σ R :=
 C_at (args := [.ptr 0 0 0 [], .str s]) h0 rfl (fun R h => C_sync hI hs h) (fun τ => rfl) h
theorem C_delete_at (h0 : DkAt σ i j d) (hI : Inv d) (hs : s.size ≤ maxLen) (h : R (.ret (i64 (delete d s).1)) (dkPut σ i j (delete d s).2)) : C tE 27 [.ptr i 0 0 [], .str s] σ R :=
 C_at (args := [.ptr 0 0 0 [], .str s]) h0 rfl (fun R h => C_delete hI hs h) (fun τ => rfl) h
theorem C_rename_at (h0 : DkAt σ i j d) (hI : Inv d) (hs : s.size ≤ maxLen) (h : R (.ret (i64 (rename d s t).1)) (dkPut σ i j (rename d s t).2)) : C tE 26 [.ptr i 0 0 [], .str s, .str t] σ R :=
 C_at (args := [.ptr 0 0 0 [], .str s, .str t]) h0 rfl (fun R h => C_rename hI hs h) (fun τ => rfl) h
theorem C_write_at (h0 : DkAt σ i j d) (hI : Inv d) (hs : s.size ≤ maxLen) (h : R (.ret (i64 (write d s b).1)) (dkPut σ i j (write d s b).2)) : C tE 30 [.ptr i 0 0 [], .str s, u8s b] σ R :=
 C_at (args := [.ptr 0 0 0 [], .str s, u8s b]) h0 rfl (fun R h => C_write hI hs h) (fun τ => rfl) h
theorem C_fuse_at (h0 : DkAt σ i j d) (h : R (.ret (.tup [])) (dkPut σ i j (setFuse d n))) : C tE 28 [.ptr i 0 0 [], i64 n] σ R :=
 C_at (args := [.ptr 0 0 0 [], i64 n]) h0 rfl (fun R h => C_fuse h) (fun τ => rfl) h
theorem C_fail_at (h0 : DkAt σ i j d) (h : R (.ret (.tup [])) (dkPut σ i j (setFail d n))) : C tE 24 [.ptr i 0 0 [], i64 n] σ R :=
 C_at (args := [.ptr 0 0 0 [], i64 n]) h0 rfl (fun R h => C_fail h) (fun τ => rfl) h
theorem C_crash_at (h0 : DkAt σ i j d) (hI : Inv d) (hk : ∀ k ∈ keep, k ≤ 9223372036854775807) (hkl : keep.length ≤ 9223372036854775807) (h : R (.ret (.tup [])) (dkPut σ i j (crash d keep))) : C tE 29 [.ptr i 0 0 [], .lit (ints keep)] σ R :=
 C_at (args := [.ptr 0 0 0 [], .lit (ints keep)]) h0 rfl (fun R h => C_crash' hI hk hkl h) (fun τ => rfl) h
theorem frz_strs (τ : Store) (l : List (List UInt8)) : frz τ 6 (.lit (strs l)) = some (.lit (strs l)) := rfl
theorem C_list_at (h0 : DkAt σ i j d) (hI : Inv d) (h : R (.ret (.lit (strs (names d)))) σ) : C tE 16 [.ptr i 0 0 []] σ R :=
 C_at0 (args := [.ptr 0 0 0 []]) h0 rfl (fun R h => C_list (by have := hI.n; omega) h) (fun τ => rfl) h
theorem C_read_at (h0 : DkAt σ i j d) (hI : Inv d) (hs : s.size ≤ maxLen) (h : R (.ret (.tup [u8s ((dget s.data.toList d.files).elim [] (·.b)), .bool (dget s.data.toList d.files).isSome])) σ) : C tE 39 [.ptr i 0 0 [], .str s] σ R :=
 C_at0 (args := [.ptr 0 0 0 [], .str s]) h0 rfl (fun R h => C_read hs (fun f hf => by have := (hI.flOK hf).sz; omega) h) (fun τ => rfl) h
theorem C_synced_at (h0 : DkAt σ i j d) (hs : s.size ≤ maxLen) (h : R (.ret (i64 ((dget s.data.toList d.files).elim 0 (·.last)))) σ) : C tE 20 [.ptr i 0 0 [], .str s] σ R :=
 C_at0 (args := [.ptr 0 0 0 [], .str s]) h0 rfl (fun R h => C_synced hs h) (fun τ => rfl) h
theorem C_do (hI : Inv d) (ho : o.OK) (h : R (.ret (i64 (doOp d o).1)) (dkS (doOp d o).2)) : C tE 8 [.ptr 0 0 0 [], encOp o] (dkS d) R := by
 refine C_new tOK ?_
 have h0 : DkAt (dkS d ++ [some (.cells 35 0 [encOp o])]) 0 1 d := ⟨by decide, rfl, rfl⟩
 unfold encOp at h0 ⊢
 unfold doOp at h
 cases h3 : o.what == 3 with
 | true =>
  refine C_bodyk tOK Tryz.func8 rfl (Nat.le_of_ble_eq_true rfl) fun K hK => ?_; simp
  repeat (first | (refine T_seqk fun K hK => ?_) | (refine T_reg tOK rfl ?_; simp [h3]) | (refine T_ret ?_; try simp) | (refine T_skip ?_; try simp) | (refine T_blockk fun K hK => ?_) | (with_reducible apply_assumption -exfalso -symm) | (rw [afterRF_ret]; simp [h3]) | (refine T_exit ?_; try simp) | (refine T_cond_t ?_ ?_; · (simp; done)) | (refine T_cond_f ?_ ?_; · (simp; done)) | (rintro _ _ (_ | _) hz9 <;> first | (simp; done) | (simp at hz9; done)) | (refine And.intro ?_ ?_) | (simp only [Post.block_ret, Post.block_exit, Post.block_normal, Post.block_pan, Post.seq_ret, Post.seq_exit, Post.seq_normal, Post.seq_pan]; try simp [h3]) | (refine T_loop (TL_round ?_)) | (refine TL_round ?_))
  refine C_sync_at (j := 1) h0 hI ho.name ?_
  simp
  repeat (first | (refine T_seqk fun K hK => ?_) | (refine T_reg tOK rfl ?_; simp [h3]) | (refine T_ret ?_; try simp) | (refine T_skip ?_; try simp) | (refine T_blockk fun K hK => ?_) | (with_reducible apply_assumption -exfalso -symm) | (rw [afterRF_ret]; simp [h3]) | (refine T_exit ?_; try simp) | (refine T_cond_t ?_ ?_; · (simp; done)) | (refine T_cond_f ?_ ?_; · (simp; done)) | (rintro _ _ (_ | _) hz9 <;> first | (simp; done) | (simp at hz9; done)) | (refine And.intro ?_ ?_) | (simp only [Post.block_ret, Post.block_exit, Post.block_normal, Post.block_pan, Post.seq_ret, Post.seq_exit, Post.seq_normal, Post.seq_pan]; try simp [h3]) | (refine T_loop (TL_round ?_)) | (refine TL_round ?_))
  ·exact .inr (dkS_all (sync d o.name).2)
  ·simpa [frzT, frzN, dkPut, dkBj, dkM,h3] using h
 | false =>
  cases h4 : o.what == 4 with
  | true =>
   refine C_bodyk tOK Tryz.func8 rfl (Nat.le_of_ble_eq_true rfl) fun K hK => ?_; simp
   repeat (first | (refine T_seqk fun K hK => ?_) | (refine T_reg tOK rfl ?_; simp [h3,h4]) | (refine T_ret ?_; try simp) | (refine T_skip ?_; try simp) | (refine T_blockk fun K hK => ?_) | (with_reducible apply_assumption -exfalso -symm) | (rw [afterRF_ret]; simp [h3,h4]) | (refine T_exit ?_; try simp) | (refine T_cond_t ?_ ?_; · (simp; done)) | (refine T_cond_f ?_ ?_; · (simp; done)) | (rintro _ _ (_ | _) hz9 <;> first | (simp; done) | (simp at hz9; done)) | (refine And.intro ?_ ?_) | (simp only [Post.block_ret, Post.block_exit, Post.block_normal, Post.block_pan, Post.seq_ret, Post.seq_exit, Post.seq_normal, Post.seq_pan]; try simp [h3,h4]) | (refine T_loop (TL_round ?_)) | (refine TL_round ?_))
   refine C_sync_at (j := 1) h0 hI ho.name ?_
   simp
   repeat (first | (refine T_seqk fun K hK => ?_) | (refine T_reg tOK rfl ?_; simp [h3,h4]) | (refine T_ret ?_; try simp) | (refine T_skip ?_; try simp) | (refine T_blockk fun K hK => ?_) | (with_reducible apply_assumption -exfalso -symm) | (rw [afterRF_ret]; simp [h3,h4]) | (refine T_exit ?_; try simp) | (refine T_cond_t ?_ ?_; · (simp; done)) | (refine T_cond_f ?_ ?_; · (simp; done)) | (rintro _ _ (_ | _) hz9 <;> first | (simp; done) | (simp at hz9; done)) | (refine And.intro ?_ ?_) | (simp only [Post.block_ret, Post.block_exit, Post.block_normal, Post.block_pan, Post.seq_ret, Post.seq_exit, Post.seq_normal, Post.seq_pan]; try simp [h3,h4]) | (refine T_loop (TL_round ?_)) | (refine TL_round ?_))
   ·exact .inr (dkS_all (sync d o.name).2)
   ·simpa [frzT, frzN, dkPut, dkBj, dkM,h3,h4] using h
  | false =>
   cases h5 : o.what == 5 with
   | true =>
    refine C_bodyk tOK Tryz.func8 rfl (Nat.le_of_ble_eq_true rfl) fun K hK => ?_; simp
    repeat (first | (refine T_seqk fun K hK => ?_) | (refine T_reg tOK rfl ?_; simp [h3,h4,h5]) | (refine T_ret ?_; try simp) | (refine T_skip ?_; try simp) | (refine T_blockk fun K hK => ?_) | (with_reducible apply_assumption -exfalso -symm) | (rw [afterRF_ret]; simp [h3,h4,h5]) | (refine T_exit ?_; try simp) | (refine T_cond_t ?_ ?_; · (simp; done)) | (refine T_cond_f ?_ ?_; · (simp; done)) | (rintro _ _ (_ | _) hz9 <;> first | (simp; done) | (simp at hz9; done)) | (refine And.intro ?_ ?_) | (simp only [Post.block_ret, Post.block_exit, Post.block_normal, Post.block_pan, Post.seq_ret, Post.seq_exit, Post.seq_normal, Post.seq_pan]; try simp [h3,h4,h5]) | (refine T_loop (TL_round ?_)) | (refine TL_round ?_))
    refine C_rename_at (j := 1) h0 hI ho.name ?_
    simp
    repeat (first | (refine T_seqk fun K hK => ?_) | (refine T_reg tOK rfl ?_; simp [h3,h4,h5]) | (refine T_ret ?_; try simp) | (refine T_skip ?_; try simp) | (refine T_blockk fun K hK => ?_) | (with_reducible apply_assumption -exfalso -symm) | (rw [afterRF_ret]; simp [h3,h4,h5]) | (refine T_exit ?_; try simp) | (refine T_cond_t ?_ ?_; · (simp; done)) | (refine T_cond_f ?_ ?_; · (simp; done)) | (rintro _ _ (_ | _) hz9 <;> first | (simp; done) | (simp at hz9; done)) | (refine And.intro ?_ ?_) | (simp only [Post.block_ret, Post.block_exit, Post.block_normal, Post.block_pan, Post.seq_ret, Post.seq_exit, Post.seq_normal, Post.seq_pan]; try simp [h3,h4,h5]) | (refine T_loop (TL_round ?_)) | (refine TL_round ?_))
    ·exact .inr (dkS_all (rename d o.name o.to).2)
    ·simpa [frzT, frzN, dkPut, dkBj, dkM,h3,h4,h5] using h
   | false =>
    cases h6 : o.what == 6 with
    | true =>
     refine C_bodyk tOK Tryz.func8 rfl (Nat.le_of_ble_eq_true rfl) fun K hK => ?_; simp
     repeat (first | (refine T_seqk fun K hK => ?_) | (refine T_reg tOK rfl ?_; simp [h3,h4,h5,h6]) | (refine T_ret ?_; try simp) | (refine T_skip ?_; try simp) | (refine T_blockk fun K hK => ?_) | (with_reducible apply_assumption -exfalso -symm) | (rw [afterRF_ret]; simp [h3,h4,h5,h6]) | (refine T_exit ?_; try simp) | (refine T_cond_t ?_ ?_; · (simp; done)) | (refine T_cond_f ?_ ?_; · (simp; done)) | (rintro _ _ (_ | _) hz9 <;> first | (simp; done) | (simp at hz9; done)) | (refine And.intro ?_ ?_) | (simp only [Post.block_ret, Post.block_exit, Post.block_normal, Post.block_pan, Post.seq_ret, Post.seq_exit, Post.seq_normal, Post.seq_pan]; try simp [h3,h4,h5,h6]) | (refine T_loop (TL_round ?_)) | (refine TL_round ?_))
     refine C_delete_at (j := 1) h0 hI ho.name ?_
     simp
     repeat (first | (refine T_seqk fun K hK => ?_) | (refine T_reg tOK rfl ?_; simp [h3,h4,h5,h6]) | (refine T_ret ?_; try simp) | (refine T_skip ?_; try simp) | (refine T_blockk fun K hK => ?_) | (with_reducible apply_assumption -exfalso -symm) | (rw [afterRF_ret]; simp [h3,h4,h5,h6]) | (refine T_exit ?_; try simp) | (refine T_cond_t ?_ ?_; · (simp; done)) | (refine T_cond_f ?_ ?_; · (simp; done)) | (rintro _ _ (_ | _) hz9 <;> first | (simp; done) | (simp at hz9; done)) | (refine And.intro ?_ ?_) | (simp only [Post.block_ret, Post.block_exit, Post.block_normal, Post.block_pan, Post.seq_ret, Post.seq_exit, Post.seq_normal, Post.seq_pan]; try simp [h3,h4,h5,h6]) | (refine T_loop (TL_round ?_)) | (refine TL_round ?_))
     ·exact .inr (dkS_all (delete d o.name).2)
     ·simpa [frzT, frzN, dkPut, dkBj, dkM,h3,h4,h5,h6] using h
    | false =>
     cases h7 : o.what == 7 with
     | true =>
      refine C_bodyk tOK Tryz.func8 rfl (Nat.le_of_ble_eq_true rfl) fun K hK => ?_; simp
      repeat (first | (refine T_seqk fun K hK => ?_) | (refine T_reg tOK rfl ?_; simp [h3,h4,h5,h6,h7]) | (refine T_ret ?_; try simp) | (refine T_skip ?_; try simp) | (refine T_blockk fun K hK => ?_) | (with_reducible apply_assumption -exfalso -symm) | (rw [afterRF_ret]; simp [h3,h4,h5,h6,h7]) | (refine T_exit ?_; try simp) | (refine T_cond_t ?_ ?_; · (simp; done)) | (refine T_cond_f ?_ ?_; · (simp; done)) | (rintro _ _ (_ | _) hz9 <;> first | (simp; done) | (simp at hz9; done)) | (refine And.intro ?_ ?_) | (simp only [Post.block_ret, Post.block_exit, Post.block_normal, Post.block_pan, Post.seq_ret, Post.seq_exit, Post.seq_normal, Post.seq_pan]; try simp [h3,h4,h5,h6,h7]) | (refine T_loop (TL_round ?_)) | (refine TL_round ?_))
      refine C_fuse_at (j := 1) h0 ?_
      simp
      repeat (first | (refine T_seqk fun K hK => ?_) | (refine T_reg tOK rfl ?_; simp [h3,h4,h5,h6,h7]) | (refine T_ret ?_; try simp) | (refine T_skip ?_; try simp) | (refine T_blockk fun K hK => ?_) | (with_reducible apply_assumption -exfalso -symm) | (rw [afterRF_ret]; simp [h3,h4,h5,h6,h7]) | (refine T_exit ?_; try simp) | (refine T_cond_t ?_ ?_; · (simp; done)) | (refine T_cond_f ?_ ?_; · (simp; done)) | (rintro _ _ (_ | _) hz9 <;> first | (simp; done) | (simp at hz9; done)) | (refine And.intro ?_ ?_) | (simp only [Post.block_ret, Post.block_exit, Post.block_normal, Post.block_pan, Post.seq_ret, Post.seq_exit, Post.seq_normal, Post.seq_pan]; try simp [h3,h4,h5,h6,h7]) | (refine T_loop (TL_round ?_)) | (refine TL_round ?_))
      ·exact .inr (dkS_all (setFuse d o.n))
      ·simpa [frzT, frzN, dkPut, dkBj, dkM,h3,h4,h5,h6,h7] using h
     | false =>
      cases h8 : o.what == 8 with
      | true =>
       refine C_bodyk tOK Tryz.func8 rfl (Nat.le_of_ble_eq_true rfl) fun K hK => ?_; simp
       repeat (first | (refine T_seqk fun K hK => ?_) | (refine T_reg tOK rfl ?_; simp [h3,h4,h5,h6,h7,h8]) | (refine T_ret ?_; try simp) | (refine T_skip ?_; try simp) | (refine T_blockk fun K hK => ?_) | (with_reducible apply_assumption -exfalso -symm) | (rw [afterRF_ret]; simp [h3,h4,h5,h6,h7,h8]) | (refine T_exit ?_; try simp) | (refine T_cond_t ?_ ?_; · (simp; done)) | (refine T_cond_f ?_ ?_; · (simp; done)) | (rintro _ _ (_ | _) hz9 <;> first | (simp; done) | (simp at hz9; done)) | (refine And.intro ?_ ?_) | (simp only [Post.block_ret, Post.block_exit, Post.block_normal, Post.block_pan, Post.seq_ret, Post.seq_exit, Post.seq_normal, Post.seq_pan]; try simp [h3,h4,h5,h6,h7,h8]) | (refine T_loop (TL_round ?_)) | (refine TL_round ?_))
       refine C_fail_at (j := 1) h0 ?_
       simp
       repeat (first | (refine T_seqk fun K hK => ?_) | (refine T_reg tOK rfl ?_; simp [h3,h4,h5,h6,h7,h8]) | (refine T_ret ?_; try simp) | (refine T_skip ?_; try simp) | (refine T_blockk fun K hK => ?_) | (with_reducible apply_assumption -exfalso -symm) | (rw [afterRF_ret]; simp [h3,h4,h5,h6,h7,h8]) | (refine T_exit ?_; try simp) | (refine T_cond_t ?_ ?_; · (simp; done)) | (refine T_cond_f ?_ ?_; · (simp; done)) | (rintro _ _ (_ | _) hz9 <;> first | (simp; done) | (simp at hz9; done)) | (refine And.intro ?_ ?_) | (simp only [Post.block_ret, Post.block_exit, Post.block_normal, Post.block_pan, Post.seq_ret, Post.seq_exit, Post.seq_normal, Post.seq_pan]; try simp [h3,h4,h5,h6,h7,h8]) | (refine T_loop (TL_round ?_)) | (refine TL_round ?_))
       ·exact .inr (dkS_all (setFail d o.n))
       ·simpa [frzT, frzN, dkPut, dkBj, dkM,h3,h4,h5,h6,h7,h8] using h
      | false =>
       cases h9 : o.what == 9 with
       | true =>
        refine C_bodyk tOK Tryz.func8 rfl (Nat.le_of_ble_eq_true rfl) fun K hK => ?_; simp
        repeat (first | (refine T_seqk fun K hK => ?_) | (refine T_reg tOK rfl ?_; simp [h3,h4,h5,h6,h7,h8,h9]) | (refine T_ret ?_; try simp) | (refine T_skip ?_; try simp) | (refine T_blockk fun K hK => ?_) | (with_reducible apply_assumption -exfalso -symm) | (rw [afterRF_ret]; simp [h3,h4,h5,h6,h7,h8,h9]) | (refine T_exit ?_; try simp) | (refine T_cond_t ?_ ?_; · (simp; done)) | (refine T_cond_f ?_ ?_; · (simp; done)) | (rintro _ _ (_ | _) hz9 <;> first | (simp; done) | (simp at hz9; done)) | (refine And.intro ?_ ?_) | (simp only [Post.block_ret, Post.block_exit, Post.block_normal, Post.block_pan, Post.seq_ret, Post.seq_exit, Post.seq_normal, Post.seq_pan]; try simp [h3,h4,h5,h6,h7,h8,h9]) | (refine T_loop (TL_round ?_)) | (refine TL_round ?_))
        refine C_crash_at (j := 1) h0 hI ho.keep ho.keepl ?_
        simp
        repeat (first | (refine T_seqk fun K hK => ?_) | (refine T_reg tOK rfl ?_; simp [h3,h4,h5,h6,h7,h8,h9]) | (refine T_ret ?_; try simp) | (refine T_skip ?_; try simp) | (refine T_blockk fun K hK => ?_) | (with_reducible apply_assumption -exfalso -symm) | (rw [afterRF_ret]; simp [h3,h4,h5,h6,h7,h8,h9]) | (refine T_exit ?_; try simp) | (refine T_cond_t ?_ ?_; · (simp; done)) | (refine T_cond_f ?_ ?_; · (simp; done)) | (rintro _ _ (_ | _) hz9 <;> first | (simp; done) | (simp at hz9; done)) | (refine And.intro ?_ ?_) | (simp only [Post.block_ret, Post.block_exit, Post.block_normal, Post.block_pan, Post.seq_ret, Post.seq_exit, Post.seq_normal, Post.seq_pan]; try simp [h3,h4,h5,h6,h7,h8,h9]) | (refine T_loop (TL_round ?_)) | (refine TL_round ?_))
        ·exact .inr (dkS_all (crash d o.keep))
        ·simpa [frzT, frzN, dkPut, dkBj, dkM,h3,h4,h5,h6,h7,h8,h9] using h
       | false =>
        refine C_bodyk tOK Tryz.func8 rfl (Nat.le_of_ble_eq_true rfl) fun K hK => ?_; simp
        repeat (first | (refine T_seqk fun K hK => ?_) | (refine T_reg tOK rfl ?_; simp [h3,h4,h5,h6,h7,h8,h9]) | (refine T_ret ?_; try simp) | (refine T_skip ?_; try simp) | (refine T_blockk fun K hK => ?_) | (with_reducible apply_assumption -exfalso -symm) | (rw [afterRF_ret]; simp [h3,h4,h5,h6,h7,h8,h9]) | (refine T_exit ?_; try simp) | (refine T_cond_t ?_ ?_; · (simp; done)) | (refine T_cond_f ?_ ?_; · (simp; done)) | (rintro _ _ (_ | _) hz9 <;> first | (simp; done) | (simp at hz9; done)) | (refine And.intro ?_ ?_) | (simp only [Post.block_ret, Post.block_exit, Post.block_normal, Post.block_pan, Post.seq_ret, Post.seq_exit, Post.seq_normal, Post.seq_pan]; try simp [h3,h4,h5,h6,h7,h8,h9]) | (refine T_loop (TL_round ?_)) | (refine TL_round ?_))
        refine C_write_at (j := 1) h0 hI ho.name ?_
        simp
        repeat (first | (refine T_seqk fun K hK => ?_) | (refine T_reg tOK rfl ?_; simp [h3,h4,h5,h6,h7,h8,h9]) | (refine T_ret ?_; try simp) | (refine T_skip ?_; try simp) | (refine T_blockk fun K hK => ?_) | (with_reducible apply_assumption -exfalso -symm) | (rw [afterRF_ret]; simp [h3,h4,h5,h6,h7,h8,h9]) | (refine T_exit ?_; try simp) | (refine T_cond_t ?_ ?_; · (simp; done)) | (refine T_cond_f ?_ ?_; · (simp; done)) | (rintro _ _ (_ | _) hz9 <;> first | (simp; done) | (simp at hz9; done)) | (refine And.intro ?_ ?_) | (simp only [Post.block_ret, Post.block_exit, Post.block_normal, Post.block_pan, Post.seq_ret, Post.seq_exit, Post.seq_normal, Post.seq_pan]; try simp [h3,h4,h5,h6,h7,h8,h9]) | (refine T_loop (TL_round ?_)) | (refine TL_round ?_))
        ·exact .inr (dkS_all (write d o.name o.b).2)
        ·simpa [frzT, frzN, dkPut, dkBj, dkM,h3,h4,h5,h6,h7,h8,h9] using h
end
section
variable {R : Re → Store → Prop} {σ : Store} {d : Dk} {i j : Nat} {n : Int} {o : OpV}
theorem C_do_at (h0 : DkAt σ i j d) (hI : Inv d) (ho : o.OK) (h : R (.ret (i64 (doOp d o).1)) (dkPut σ i j (doOp d o).2)) : C tE 8 [.ptr i 0 0 [], encOp o] σ R :=
 C_at (args := [.ptr 0 0 0 [], encOp o]) h0 rfl (fun R h => C_do hI ho h) (fun τ => rfl) h
theorem C_new_none (h0 : (decide (n < 0) || decide (1048576 < n)) = true) (h : R (.ret .nilp) σ) : C tE 5 [i64 n] σ R := by
 cases h1 : decide (n < 0) with
 | true =>
  refine C_bodyk tOK Tryz.func5 rfl (Nat.le_of_ble_eq_true rfl) fun K hK => ?_; simp
  repeat (first | (refine T_seqk fun K hK => ?_) | (refine T_reg tOK rfl ?_; simp [h1]) | (refine T_ret ?_; try simp) | (refine T_skip ?_; try simp) | (refine T_blockk fun K hK => ?_) | (with_reducible apply_assumption -exfalso -symm) | (rw [afterRF_ret]; simp [h1]) | (refine T_exit ?_; try simp) | (refine T_cond_t ?_ ?_; · (simp; done)) | (refine T_cond_f ?_ ?_; · (simp; done)) | (rintro _ _ (_ | _) hz9 <;> first | (simp; done) | (simp at hz9; done)) | (refine And.intro ?_ ?_) | (simp only [Post.block_ret, Post.block_exit, Post.block_normal, Post.block_pan, Post.seq_ret, Post.seq_exit, Post.seq_normal, Post.seq_pan]; try simp [h1]) | (refine T_loop (TL_round ?_)) | (refine TL_round ?_))
 | false =>
  have h2 : decide (1048576 < n) = true := by simpa [h1] using h0
  refine C_bodyk tOK Tryz.func5 rfl (Nat.le_of_ble_eq_true rfl) fun K hK => ?_; simp
  repeat (first | (refine T_seqk fun K hK => ?_) | (refine T_reg tOK rfl ?_; simp [h1,h2]) | (refine T_ret ?_; try simp) | (refine T_skip ?_; try simp) | (refine T_blockk fun K hK => ?_) | (with_reducible apply_assumption -exfalso -symm) | (rw [afterRF_ret]; simp [h1,h2]) | (refine T_exit ?_; try simp) | (refine T_cond_t ?_ ?_; · (simp; done)) | (refine T_cond_f ?_ ?_; · (simp; done)) | (rintro _ _ (_ | _) hz9 <;> first | (simp; done) | (simp at hz9; done)) | (refine And.intro ?_ ?_) | (simp only [Post.block_ret, Post.block_exit, Post.block_normal, Post.block_pan, Post.seq_ret, Post.seq_exit, Post.seq_normal, Post.seq_pan]; try simp [h1,h2]) | (refine T_loop (TL_round ?_)) | (refine TL_round ?_))
def bulk (o : OpV) : Int := min (o.name.size : Int) 9000 + min (o.to.size : Int) 9000 + min (o.b.length : Int) 9000 + min (o.keep.length : Int) 9000
def gsum : List OpV → Int → Int
 | [], n => n
 | o :: r, n => if n < 20000 then gsum r (n + bulk o) else n
def great (l : List OpV) : Bool := decide (20000 ≤ gsum l l.length) || decide (300 < (l.length : Int))
def encOps (l : List OpV) : List PV := l.map encOp
theorem bulk_nn (o : OpV) : 0 ≤ bulk o ∧ bulk o ≤ 36000 := by unfold bulk; omega
set_option maxHeartbeats 4000000 in
theorem C_great {l : List OpV} (hl : l.length ≤ 9223372036854775807) (h : R (.ret (.bool (great l))) σ) : C tE 7 [.lit (encOps l)] σ R := by
 have hll : (encOps l).length = l.length := by simp [encOps]
 refine C_pure tOK rfl ?_
 refine C_bodyk tOK Tryz.func7 rfl (Nat.le_of_ble_eq_true rfl) fun K hK => ?_; simp
 repeat (first | (refine T_seqk fun K hK => ?_) | (refine T_reg tOK rfl ?_; simp [hll]) | (refine T_ret ?_; try simp) | (refine T_skip ?_; try simp) | (refine T_blockk fun K hK => ?_) | (with_reducible apply_assumption -exfalso -symm) | (rw [afterRF_ret]; simp [hll]) | (refine T_exit ?_; try simp) | (refine T_cond_t ?_ ?_; · (simp; done)) | (refine T_cond_f ?_ ?_; · (simp; done)) | (rintro _ _ (_ | _) hz9 <;> first | (simp; done) | (simp at hz9; done)) | (refine And.intro ?_ ?_) | (simp only [Post.block_ret, Post.block_exit, Post.block_normal, Post.block_pan, Post.seq_ret, Post.seq_exit, Post.seq_normal, Post.seq_pan]; try simp [hll]) | (refine T_draw tOK tmix [([], 0), ([], 1), ([], 2), ([1, 2], 3), ([1, 2, 3], 4), ([1, 2, 3, 4], 5), ([1, 2, 3, 4, 5], 6), ([1, 2, 3, 4, 5, 6], 7), ([0, 1, 2, 3, 4, 5, 6, 7], 8), ([], 9), ([], 10), ([9, 10], 11), ([9, 10, 11], 12), ([9, 10, 11, 12], 13), ([9, 10, 11, 12, 13], 14), ([9, 10, 11, 12, 13, 14], 15), ([0, 1, 2, 3, 4, 5, 6, 7, 8, 9, 10, 11, 12, 13, 14, 15], 16), ([], 17), ([], 18), ([17, 18], 19), ([17, 18, 19], 20), ([17, 18, 19, 20], 21), ([17, 18, 19, 20, 21], 22), ([17, 18, 19, 20, 21, 22], 23), ([0, 1, 2, 3, 4, 5, 6, 7, 8, 9, 10, 11, 12, 13, 14, 15, 16, 17, 18, 19, 20, 21, 22, 23], 24), ([], 25), ([], 26), ([25, 26], 27), ([25, 26, 27], 28), ([25, 26, 27, 28], 29), ([25, 26, 27, 28, 29], 30), ([25, 26, 27, 28, 29, 30], 31), ([0, 1, 2, 3, 4, 5, 6, 7, 8, 9, 10, 11, 12, 13, 14, 15, 16, 17, 18, 19, 20, 21, 22, 23, 24, 25, 26, 27, 28, 29, 30, 31], 32), ([0, 1, 2, 3, 4, 5, 6, 7, 8, 9, 10, 11, 12, 13, 14, 15, 16, 17, 18, 19, 20, 21, 22, 23, 24, 25, 26, 27, 28, 29, 30, 31, 32], 33)] 32 (by decide +kernel) ?_; simp [hll]))
 refine T_loop ?_
 refine TL_keep [0, 3, 4] ?_
 simp [Fr.keep]
 refine (?key : ∀ (r : List OpV) (k : Nat) (n : Int), l.drop k = r → 0 ≤ n → n ≤ 9223372036854775807 → gsum r n = gsum l l.length →
  TL tE _ _ _ _ [(0, .lit (encOps l)), (3, i64 n), (4, i64 k)] []) l 0 l.length rfl (by omega) (by omega) rfl
 intro r
 induction r with
 | nil =>
  intro k n hdrop hn0 hn1 hg
  have hk0 : decide (k < l.length) = false := by
   have := List.drop_eq_nil_iff.1 hdrop
   rw [decide_eq_false_iff_not]; omega
  have hg : n = gsum l l.length := hg
  unfold great at h
  rw [← hg] at h
  cases hq : decide (20000 ≤ n) with
  | true =>
   have hq' : 20000 ≤ n := by simpa using hq
   rw [hq] at h
   refine TL_round ?_
   repeat (first | (refine T_seqk fun K hK => ?_) | (refine T_reg tOK rfl ?_; simp [hk0,hll,hq']) | (refine T_ret ?_; try simp) | (refine T_skip ?_; try simp) | (refine T_blockk fun K hK => ?_) | (with_reducible apply_assumption -exfalso -symm) | (rw [afterRF_ret]; simp [hk0,hll,hq']) | (refine T_exit ?_; try simp) | (refine T_cond_t ?_ ?_; · (simp; done)) | (refine T_cond_f ?_ ?_; · (simp; done)) | (rintro _ _ (_ | _) hz9 <;> first | (simp; done) | (simp at hz9; done)) | (refine And.intro ?_ ?_) | (simp only [Post.block_ret, Post.block_exit, Post.block_normal, Post.block_pan, Post.seq_ret, Post.seq_exit, Post.seq_normal, Post.seq_pan]; try simp [hk0,hll,hq']) | (refine T_draw tOK tmix [([], 0), ([], 1), ([], 2), ([1, 2], 3), ([1, 2, 3], 4), ([1, 2, 3, 4], 5), ([1, 2, 3, 4, 5], 6), ([1, 2, 3, 4, 5, 6], 7), ([0, 1, 2, 3, 4, 5, 6, 7], 8), ([], 9), ([], 10), ([9, 10], 11), ([9, 10, 11], 12), ([9, 10, 11, 12], 13), ([9, 10, 11, 12, 13], 14), ([9, 10, 11, 12, 13, 14], 15), ([0, 1, 2, 3, 4, 5, 6, 7, 8, 9, 10, 11, 12, 13, 14, 15], 16), ([], 17), ([], 18), ([17, 18], 19), ([17, 18, 19], 20), ([17, 18, 19, 20], 21), ([17, 18, 19, 20, 21], 22), ([17, 18, 19, 20, 21, 22], 23), ([0, 1, 2, 3, 4, 5, 6, 7, 8, 9, 10, 11, 12, 13, 14, 15, 16, 17, 18, 19, 20, 21, 22, 23], 24), ([], 25), ([], 26), ([25, 26], 27), ([25, 26, 27], 28), ([25, 26, 27, 28], 29), ([25, 26, 27, 28, 29], 30), ([25, 26, 27, 28, 29, 30], 31), ([0, 1, 2, 3, 4, 5, 6, 7, 8, 9, 10, 11, 12, 13, 14, 15, 16, 17, 18, 19, 20, 21, 22, 23, 24, 25, 26, 27, 28, 29, 30, 31], 32), ([0, 1, 2, 3, 4, 5, 6, 7, 8, 9, 10, 11, 12, 13, 14, 15, 16, 17, 18, 19, 20, 21, 22, 23, 24, 25, 26, 27, 28, 29, 30, 31, 32], 33)] 32 (by decide +kernel) ?_; simp [hk0,hll,hq']))
  | false =>
   have hq' : (20000 ≤ n) = False := by simpa using hq
   rw [hq] at h
   refine TL_round ?_
   repeat (first | (refine T_seqk fun K hK => ?_) | (refine T_reg tOK rfl ?_; simp [hk0,hll,hq']) | (refine T_ret ?_; try simp) | (refine T_skip ?_; try simp) | (refine T_blockk fun K hK => ?_) | (with_reducible apply_assumption -exfalso -symm) | (rw [afterRF_ret]; simp [hk0,hll,hq']) | (refine T_exit ?_; try simp) | (refine T_cond_t ?_ ?_; · (simp; done)) | (refine T_cond_f ?_ ?_; · (simp; done)) | (rintro _ _ (_ | _) hz9 <;> first | (simp; done) | (simp at hz9; done)) | (refine And.intro ?_ ?_) | (simp only [Post.block_ret, Post.block_exit, Post.block_normal, Post.block_pan, Post.seq_ret, Post.seq_exit, Post.seq_normal, Post.seq_pan]; try simp [hk0,hll,hq']) | (refine T_draw tOK tmix [([], 0), ([], 1), ([], 2), ([1, 2], 3), ([1, 2, 3], 4), ([1, 2, 3, 4], 5), ([1, 2, 3, 4, 5], 6), ([1, 2, 3, 4, 5, 6], 7), ([0, 1, 2, 3, 4, 5, 6, 7], 8), ([], 9), ([], 10), ([9, 10], 11), ([9, 10, 11], 12), ([9, 10, 11, 12], 13), ([9, 10, 11, 12, 13], 14), ([9, 10, 11, 12, 13, 14], 15), ([0, 1, 2, 3, 4, 5, 6, 7, 8, 9, 10, 11, 12, 13, 14, 15], 16), ([], 17), ([], 18), ([17, 18], 19), ([17, 18, 19], 20), ([17, 18, 19, 20], 21), ([17, 18, 19, 20, 21], 22), ([17, 18, 19, 20, 21, 22], 23), ([0, 1, 2, 3, 4, 5, 6, 7, 8, 9, 10, 11, 12, 13, 14, 15, 16, 17, 18, 19, 20, 21, 22, 23], 24), ([], 25), ([], 26), ([25, 26], 27), ([25, 26, 27], 28), ([25, 26, 27, 28], 29), ([25, 26, 27, 28, 29], 30), ([25, 26, 27, 28, 29, 30], 31), ([0, 1, 2, 3, 4, 5, 6, 7, 8, 9, 10, 11, 12, 13, 14, 15, 16, 17, 18, 19, 20, 21, 22, 23, 24, 25, 26, 27, 28, 29, 30, 31], 32), ([0, 1, 2, 3, 4, 5, 6, 7, 8, 9, 10, 11, 12, 13, 14, 15, 16, 17, 18, 19, 20, 21, 22, 23, 24, 25, 26, 27, 28, 29, 30, 31, 32], 33)] 32 (by decide +kernel) ?_; simp [hk0,hll,hq']))
 | cons o r ih =>
  intro k n hdrop hn0 hn1 hg
  simp only [gsum] at hg
  by_cases hn : n < 20000
  ·rw [if_pos hn] at hg
   have hkl : k < l.length := by
    rcases Nat.lt_or_ge k l.length with h | h
    ·exact h
    ·rw [List.drop_eq_nil_iff.2 h] at hdrop; simp at hdrop
   have hdrop' : l.drop (k + 1) = r := by
    have := congrArg (List.drop 1) hdrop
    simpa [List.drop_drop] using this
   have hlk : l[k]? = some o := by
    have := List.getElem?_drop (xs := l) (i := k) (j := 0)
    rw [hdrop] at this; simpa using this.symm
   have hek : (encOps l)[k]? = some (.agg 35 [i64 o.what, .str o.name, .str o.to, .lit (u8l o.b), i64 o.n, .lit (ints o.keep)]) := by simp [encOps, hlk, encOp]
   have hk0 : decide (k < l.length) = true := by simpa using hkl
   have hnd : decide (n < 20000) = true := by simpa using hn
   have hwk : IntKind.i64.wrap ((k : Int) + 1) = ((k + 1 : Nat) : Int) := by rw [IntWalk.i64_in _ (by omega)]; omega
   have hbl : (u8l o.b).length = o.b.length := by simp [u8l]
   have hil : (ints o.keep).length = o.keep.length := by simp [ints]
   have w1 : IntKind.i64.wrap (n + min (o.name.size : Int) 9000) = n + min (o.name.size : Int) 9000 := IntWalk.i64_in _ (by omega)
   have w2 : IntKind.i64.wrap (n + min (o.name.size : Int) 9000 + min (o.to.size : Int) 9000) = n + min (o.name.size : Int) 9000 + min (o.to.size : Int) 9000 := IntWalk.i64_in _ (by omega)
   have w3 : IntKind.i64.wrap (n + min (o.name.size : Int) 9000 + min (o.to.size : Int) 9000 + min (o.b.length : Int) 9000) = n + min (o.name.size : Int) 9000 + min (o.to.size : Int) 9000 + min (o.b.length : Int) 9000 := IntWalk.i64_in _ (by omega)
   have w4 : IntKind.i64.wrap (n + min (o.name.size : Int) 9000 + min (o.to.size : Int) 9000 + min (o.b.length : Int) 9000 + min (o.keep.length : Int) 9000) = n + min (o.name.size : Int) 9000 + min (o.to.size : Int) 9000 + min (o.b.length : Int) 9000 + min (o.keep.length : Int) 9000 := IntWalk.i64_in _ (by omega)
   have hb := bulk_nn o
   have hsum : n + min (o.name.size : Int) 9000 + min (o.to.size : Int) 9000 + min (o.b.length : Int) 9000 + min (o.keep.length : Int) 9000 = n + bulk o := by unfold bulk; omega
   refine TL_round ?_
   repeat (first | (refine T_seqk fun K hK => ?_) | (refine T_reg tOK rfl ?_; simp [hk0,hnd,hn,hll,hek,hwk,hbl,hil,w1,w2,w3,w4]) | (refine T_ret ?_; try simp) | (refine T_skip ?_; try simp) | (refine T_blockk fun K hK => ?_) | (with_reducible apply_assumption -exfalso -symm) | (rw [afterRF_ret]; simp [hk0,hnd,hn,hll,hek,hwk,hbl,hil,w1,w2,w3,w4]) | (refine T_exit ?_; try simp) | (refine T_cond_t ?_ ?_; · (simp; done)) | (refine T_cond_f ?_ ?_; · (simp; done)) | (rintro _ _ (_ | _) hz9 <;> first | (simp; done) | (simp at hz9; done)) | (refine And.intro ?_ ?_) | (simp only [Post.block_ret, Post.block_exit, Post.block_normal, Post.block_pan, Post.seq_ret, Post.seq_exit, Post.seq_normal, Post.seq_pan]; try simp [hk0,hnd,hn,hll,hek,hwk,hbl,hil,w1,w2,w3,w4]) | (refine T_draw tOK tmix [([], 0), ([], 1), ([], 2), ([1, 2], 3), ([1, 2, 3], 4), ([1, 2, 3, 4], 5), ([1, 2, 3, 4, 5], 6), ([1, 2, 3, 4, 5, 6], 7), ([0, 1, 2, 3, 4, 5, 6, 7], 8), ([], 9), ([], 10), ([9, 10], 11), ([9, 10, 11], 12), ([9, 10, 11, 12], 13), ([9, 10, 11, 12, 13], 14), ([9, 10, 11, 12, 13, 14], 15), ([0, 1, 2, 3, 4, 5, 6, 7, 8, 9, 10, 11, 12, 13, 14, 15], 16), ([], 17), ([], 18), ([17, 18], 19), ([17, 18, 19], 20), ([17, 18, 19, 20], 21), ([17, 18, 19, 20, 21], 22), ([17, 18, 19, 20, 21, 22], 23), ([0, 1, 2, 3, 4, 5, 6, 7, 8, 9, 10, 11, 12, 13, 14, 15, 16, 17, 18, 19, 20, 21, 22, 23], 24), ([], 25), ([], 26), ([25, 26], 27), ([25, 26, 27], 28), ([25, 26, 27, 28], 29), ([25, 26, 27, 28, 29], 30), ([25, 26, 27, 28, 29, 30], 31), ([0, 1, 2, 3, 4, 5, 6, 7, 8, 9, 10, 11, 12, 13, 14, 15, 16, 17, 18, 19, 20, 21, 22, 23, 24, 25, 26, 27, 28, 29, 30, 31], 32), ([0, 1, 2, 3, 4, 5, 6, 7, 8, 9, 10, 11, 12, 13, 14, 15, 16, 17, 18, 19, 20, 21, 22, 23, 24, 25, 26, 27, 28, 29, 30, 31, 32], 33)] 32 (by decide +kernel) ?_; simp [hk0,hnd,hn,hll,hek,hwk,hbl,hil,w1,w2,w3,w4]))
   rw [hsum]
   refine TL_fall 0 [0, 3, 4] (Nat.le_refl _) rfl rfl rfl rfl (ih (k + 1) _ hdrop' (by omega) (by omega) hg)
  ·rw [if_neg hn] at hg
   unfold great at h
   rw [← hg] at h
   have hq' : 20000 ≤ n := by omega
   have hq : decide (20000 ≤ n) = true := by simpa using hq'
   have hk0 : decide (n < 20000) = false := by simpa using hq'
   have hk1 : (n < 20000) = False := by simpa using hq'
   clear hn
   rw [hq] at h
   cases hkk : decide (k < l.length) with
   | true =>
    refine TL_round ?_
    repeat (first | (refine T_seqk fun K hK => ?_) | (refine T_reg tOK rfl ?_; simp [hkk,hk0,hk1,hll,hq']) | (refine T_ret ?_; try simp) | (refine T_skip ?_; try simp) | (refine T_blockk fun K hK => ?_) | (with_reducible apply_assumption -exfalso -symm) | (rw [afterRF_ret]; simp [hkk,hk0,hk1,hll,hq']) | (refine T_exit ?_; try simp) | (refine T_cond_t ?_ ?_; · (simp; done)) | (refine T_cond_f ?_ ?_; · (simp; done)) | (rintro _ _ (_ | _) hz9 <;> first | (simp; done) | (simp at hz9; done)) | (refine And.intro ?_ ?_) | (simp only [Post.block_ret, Post.block_exit, Post.block_normal, Post.block_pan, Post.seq_ret, Post.seq_exit, Post.seq_normal, Post.seq_pan]; try simp [hkk,hk0,hk1,hll,hq']) | (refine T_draw tOK tmix [([], 0), ([], 1), ([], 2), ([1, 2], 3), ([1, 2, 3], 4), ([1, 2, 3, 4], 5), ([1, 2, 3, 4, 5], 6), ([1, 2, 3, 4, 5, 6], 7), ([0, 1, 2, 3, 4, 5, 6, 7], 8), ([], 9), ([], 10), ([9, 10], 11), ([9, 10, 11], 12), ([9, 10, 11, 12], 13), ([9, 10, 11, 12, 13], 14), ([9, 10, 11, 12, 13, 14], 15), ([0, 1, 2, 3, 4, 5, 6, 7, 8, 9, 10, 11, 12, 13, 14, 15], 16), ([], 17), ([], 18), ([17, 18], 19), ([17, 18, 19], 20), ([17, 18, 19, 20], 21), ([17, 18, 19, 20, 21], 22), ([17, 18, 19, 20, 21, 22], 23), ([0, 1, 2, 3, 4, 5, 6, 7, 8, 9, 10, 11, 12, 13, 14, 15, 16, 17, 18, 19, 20, 21, 22, 23], 24), ([], 25), ([], 26), ([25, 26], 27), ([25, 26, 27], 28), ([25, 26, 27, 28], 29), ([25, 26, 27, 28, 29], 30), ([25, 26, 27, 28, 29, 30], 31), ([0, 1, 2, 3, 4, 5, 6, 7, 8, 9, 10, 11, 12, 13, 14, 15, 16, 17, 18, 19, 20, 21, 22, 23, 24, 25, 26, 27, 28, 29, 30, 31], 32), ([0, 1, 2, 3, 4, 5, 6, 7, 8, 9, 10, 11, 12, 13, 14, 15, 16, 17, 18, 19, 20, 21, 22, 23, 24, 25, 26, 27, 28, 29, 30, 31, 32], 33)] 32 (by decide +kernel) ?_; simp [hkk,hk0,hk1,hll,hq']))
   | false =>
    refine TL_round ?_
    repeat (first | (refine T_seqk fun K hK => ?_) | (refine T_reg tOK rfl ?_; simp [hkk,hk0,hk1,hll,hq']) | (refine T_ret ?_; try simp) | (refine T_skip ?_; try simp) | (refine T_blockk fun K hK => ?_) | (with_reducible apply_assumption -exfalso -symm) | (rw [afterRF_ret]; simp [hkk,hk0,hk1,hll,hq']) | (refine T_exit ?_; try simp) | (refine T_cond_t ?_ ?_; · (simp; done)) | (refine T_cond_f ?_ ?_; · (simp; done)) | (rintro _ _ (_ | _) hz9 <;> first | (simp; done) | (simp at hz9; done)) | (refine And.intro ?_ ?_) | (simp only [Post.block_ret, Post.block_exit, Post.block_normal, Post.block_pan, Post.seq_ret, Post.seq_exit, Post.seq_normal, Post.seq_pan]; try simp [hkk,hk0,hk1,hll,hq']) | (refine T_draw tOK tmix [([], 0), ([], 1), ([], 2), ([1, 2], 3), ([1, 2, 3], 4), ([1, 2, 3, 4], 5), ([1, 2, 3, 4, 5], 6), ([1, 2, 3, 4, 5, 6], 7), ([0, 1, 2, 3, 4, 5, 6, 7], 8), ([], 9), ([], 10), ([9, 10], 11), ([9, 10, 11], 12), ([9, 10, 11, 12], 13), ([9, 10, 11, 12, 13], 14), ([9, 10, 11, 12, 13, 14], 15), ([0, 1, 2, 3, 4, 5, 6, 7, 8, 9, 10, 11, 12, 13, 14, 15], 16), ([], 17), ([], 18), ([17, 18], 19), ([17, 18, 19], 20), ([17, 18, 19, 20], 21), ([17, 18, 19, 20, 21], 22), ([17, 18, 19, 20, 21, 22], 23), ([0, 1, 2, 3, 4, 5, 6, 7, 8, 9, 10, 11, 12, 13, 14, 15, 16, 17, 18, 19, 20, 21, 22, 23], 24), ([], 25), ([], 26), ([25, 26], 27), ([25, 26, 27], 28), ([25, 26, 27, 28], 29), ([25, 26, 27, 28, 29], 30), ([25, 26, 27, 28, 29, 30], 31), ([0, 1, 2, 3, 4, 5, 6, 7, 8, 9, 10, 11, 12, 13, 14, 15, 16, 17, 18, 19, 20, 21, 22, 23, 24, 25, 26, 27, 28, 29, 30, 31], 32), ([0, 1, 2, 3, 4, 5, 6, 7, 8, 9, 10, 11, 12, 13, 14, 15, 16, 17, 18, 19, 20, 21, 22, 23, 24, 25, 26, 27, 28, 29, 30, 31, 32], 33)] 32 (by decide +kernel) ?_; simp [hkk,hk0,hk1,hll,hq']))
end
end Go.Proofs.YtdplbgfokoajjaaGreat
end
section
set_option linter.unusedVariables false
set_option linter.unusedSimpArgs false
set_option maxRecDepth 20000
namespace Go.Proofs.YtdplbgfokoajjaaGreat
open Go
attribute [local simp] RF_nil RF_cons afterRF_ret nilCmp sop sGuard isCall sCallee Fr.eval Fr.get Fr.put ofConst sLoad sStore sBuiltin Fr.args bodyQ sRes oneOf sBin sInt sUn
attribute [local simp] RD_nil RD_cons noConf clear accAdd Tab.pr Tab.slot foot wid idOf refId Op.operands Call.operands sFieldAddr sNilCheck sLookup keyLit sMapSet sMapDel sLen Store.at Store.new getP setP typeAt fits evalParts sBuildSlice sFill sList sApp sAppend frzRe frz pureB pureL
attribute [local simp] optEval sSlice sIndexAddr
abbrev txt (l : List UInt8) : ByteArray := ⟨l.toArray⟩
instance : DecidableEq Fl := fun a b => decidable_of_iff (a.b = b.b ∧ a.last = b.last) (by cases a; cases b; simp)
instance : DecidableEq Dk := fun a b => decidable_of_iff (a.room = b.room ∧ a.files = b.files ∧ a.fuse = b.fuse ∧ a.fail = b.fail) (by cases a; cases b; simp)
theorem h1 {n : List UInt8} (h : n.length < 100 := by decide) : (txt n).size ≤ maxLen := Nat.le_trans (Nat.le_of_lt h) (by decide)
def lay (d : Dk) (r : Store) : Store := some (dkM d) :: some (dkBj d 0) :: r
theorem lay_at (d : Dk) (r : Store) : DkAt (lay d r) 1 0 d := ⟨by decide, rfl, rfl⟩
theorem lay_put (d d' : Dk) (r : Store) : dkPut (lay d r) 1 0 d' = lay d' r := rfl
theorem lay_new (n : Int) : [some (.mp 9 []), some (.cells 54 0 [.agg 54 [i64 n, .map 0, i64 (-1), i64 0]])] = lay ⟨n, [], -1, 0⟩ [] := rfl
theorem VL_nils {c : Cx} : ∀ {xs : List PV} {vs : List Value}, VL tE c (xs ++ [.nils]) vs → VL tE c (xs ++ [u8s []]) vs := fun {xs vs} h => by
 obtain ⟨us, ws, rfl, h1, h2⟩ := VL.split h
 obtain ⟨v, rfl⟩ : ∃ v, ws = [v] := by
  have := h2.len
  match ws, this with
  | [v], _ => exact ⟨v, rfl⟩
 exact VL.app h1 (V.nils_lit h2)
theorem bytes_size (b : ByteArray) : b.size = b.data.toList.length := (Array.length_toList).symm
theorem bytes_loop (b : ByteArray) : ∀ (n i : Nat) (r : List UInt8), b.size - i = n → ByteArray.toList.loop b i r = r.reverse ++ b.data.toList.drop i := by
 intro n
 have hsz := bytes_size b
 induction n with
 | zero =>
  intro i r h
  unfold ByteArray.toList.loop
  have h' : ¬ i < b.size := by omega
  rw [if_neg h', List.drop_eq_nil_iff.2 (by omega)]
  simp
 | succ n ih =>
  intro i r h
  unfold ByteArray.toList.loop
  have h' : i < b.size := by omega
  rw [if_pos h', ih (i + 1) _ (by omega)]
  have hl : i < b.data.toList.length := by omega
  rw [List.drop_eq_getElem_cons hl]
  have : b.get! i = b.data.toList[i] := by
   have hl' : i < b.data.size := by rw [← Array.length_toList]; exact hl
   show b.data[i]! = _
   rw [getElem!_pos b.data i hl', Array.getElem_toList]
  simp [this]
theorem bytes_toList (b : ByteArray) : b.toList = b.data.toList := by
 unfold ByteArray.toList
 rw [bytes_loop b _ 0 [] rfl]; simp
end Go.Proofs.YtdplbgfokoajjaaGreat
end
section
set_option linter.unusedVariables false
set_option linter.unusedSimpArgs false
set_option maxRecDepth 20000
namespace Go.Proofs.YtdplbgfokoajjaaGreat
open Go Go.ChangeShapes Go.RowKit
theorem Tryz.own : ownKnob Tryz.prog.godebug = none := by kernel_rfl
theorem Tryz.laidOut : laidOutB Tryz.prog = true := by kernel_rfl
section
variable {H : Type} {enc : TypeId × Value → H}
theorem arg_V {W : World} {sp : Nat → Bool} {held : Bool} {t : TypeId} {v : Value} {d : DataW H} {ps : List MemPlace} {base : Nat} (n : Nat) (hs : simpleT tE n t = true) (hst : ∀ fs, tE.P.underlying t ≠ some (.struct fs)) (harr : ∀ m e, tE.P.underlying t ≠ some (.array m e))
  (hok : Value.okWide tE.P W .any base t v) (h : DataW.Trod enc tE.P W 0 sp held t v d ps) : ∃ x, V tE (cx0 W) x v ∧ Dat tE n t x := by
 obtain ⟨fuel, h⟩ := h
 obtain ⟨x, h1, h2, h3⟩ := trod_VC tOK W fuel n t _ d ps hs h
 have hk := simple_kn hs
 obtain ⟨td, hu, hag⟩ := tOK.und t hk
 have hna : tE.agg t = false := by
  rw [hag]
  cases td <;> first | rfl | (exact absurd hu (hst _)) | (exact absurd hu (harr _ _))
 have hcell : Cell.okWide tE.P W .any base t v := by
  unfold Value.okWide at hok
  rw [hu] at hok
  cases td <;> first | exact hok | (exact absurd hu (hst _)) | (exact absurd hu (harr _ _))
 have hnagg : ∀ cs, v ≠ .agg cs := fun cs e => by
  subst e
  have h5 : Cell.ok tE.P W .any base t (.agg cs) → False := fun hc => by
   unfold Cell.ok at hc
   rw [hu] at hc
   cases td <;> exact hc
  unfold Cell.okWide at hcell
  rw [hu] at hcell
  cases td <;> exact h5 hcell
 have hone : v.cells = #[v] := by
  cases v with
  | agg cs => exact absurd rfl (hnagg cs)
  | _ => rfl
 rw [hone] at h1
 refine ⟨x, V_one h1 (fun t' fs e => ?_), h3⟩
 subst e
 simp only [fits, Bool.and_eq_true, hna] at h2
 exact absurd h2.2 (by simp)
theorem trodAll_stays {W W' : World} (hb : Below W.heap.size W W') : ∀ {ts : List TypeId} {vs : List Value} {ds : List (DataW H)} {ps : List MemPlace}, (∀ t ∈ ts, Tryz.prog.readableRec t = true ∧ t < Tryz.prog.types.size) →
  DataW.TrodAll enc Tryz.prog W 0 (fun _ => true) true ts vs ds ps → (∀ x ∈ ps, x.block < W.heap.size) → DataW.TrodAll enc Tryz.prog W' 0 (fun b => decide (b < W.heap.size)) true ts vs ds ps
 | [], [], [], ps, _, h, _ => h
 | t :: ts, v :: vs, d :: ds, ps, ht, h, hl => by
  obtain ⟨p, q, h1, h2, rfl⟩ := h
  obtain ⟨k1, k2⟩ := ht t (by simp)
  exact ⟨p, q, Below.trod Tryz.laidOut k1 k2 h1 hb (fun x hx => hl x (by simp [hx])), trodAll_stays hb (fun t ht' => ht t (by simp [ht'])) h2 (fun x hx => hl x (by simp [hx])), rfl⟩
 | [], _ :: _, _, _, _, h, _ => h.elim
 | [], [], _ :: _, _, _, h, _ => h.elim
 | _ :: _, [], _, _, _, h, _ => h.elim
 | _ :: _, _ :: _, [], _, _, h, _ => h.elim
theorem law_post {s : ChangeSpec} {fn : Func} {W W' : World} {args : Array Value} {ds gs : List (DataW H)} {before : List MemPlace} {fresh : Bool} (hW : DataW.Whole enc Tryz.prog fn.params.toList s.vars false W args.toList ds gs before) (hb : Below W.heap.size W W')
  (hvars : s.vars = []) (hs : s.fn H (ds ++ gs) = { results := [.lit (.bool true)], args := ds }) (hr : fn.resultTypes = #[4]) (hread : fn.params.toList.all (fun t => Tryz.prog.readableRec t && decide (t < Tryz.prog.types.size)) = true) :
  s.post enc Tryz.prog fn false fresh false false W args (.bool true) W' := by
 have hW' := hW
 obtain ⟨p, q, h1, h2, rfl, h3, h4⟩ := hW
 have hlt := fun x hx => hW'.lt x hx
 have hbool : Tryz.prog.underlying 4 = some .bool := tOK.td 4 rfl
 refine ⟨ds, gs, p ++ q, [], p, [], hW', ?_, ?_, ?_, ?_, by simp⟩
 ·rw [hs, hr]
  cases fresh <;> exact trodAll_mk1 (shut_bool hbool true)
 ·rw [hs]
  exact trodAll_stays hb (fun t ht => by simpa using List.all_eq_true.1 hread t ht) h1 (fun x hx => hlt x (by simp [hx]))
 ·rw [hvars, hs]; rfl
 ·refine ⟨hb.os, hb.output, fun i hi => ?_⟩
  rw [hb.block i hi]
  exact (World.keptBut_refl W (fun x => x ∈ p ++ q ∧ (x ∈ ([] : List MemPlace) ∨ x ∈ p ∨ x ∈ ([] : List MemPlace)))).2.2 i hi
theorem law_calls {f : FuncId} {xs : List PV} {W : World} {args : Array Value} (hv : VL tE (cx0 W) xs args.toList) (hC : ∀ R : Re → Store → Prop, (∀ σ, R (.ret (.bool true)) σ) → C tE f xs [] R) :
  Calls Tryz.prog f args W fun e W' => e = .returned (.bool true) ∧ Below W.heap.size W W' := by
 have := hC (fun re _ => re = .ret (.bool true)) (fun _ => rfl) (cx0 W) args (Now.cx0 W) hv
 refine Calls.mono this ?_
 rintro e w' ⟨re, σ', cx', rfl, rfl, hre, hn, hs⟩
 refine ⟨?_, ⟨hs.os, hs.tape, hs.output, hs.size, fun k hk => hs.keeps k hk⟩⟩
 cases e <;> simp only [ReOK] at hre
 have := V.bool_inv hre
 rw [this]
theorem dat_int {n : Nat} {x : PV} (h : Dat tE (n + 1) 3 x) : ∃ k, x = i64 k ∧ -9223372036854775808 ≤ k ∧ k ≤ 9223372036854775807 := by
 obtain ⟨k, rfl, hw⟩ := (h : ∃ i, x = .int .i64 i ∧ (Lit.int .i64 i).wf = true)
 refine ⟨k, rfl, ?_⟩
 simp [Lit.wf, IntKind.has, IntKind.min, IntKind.max, IntKind.signed, IntKind.bits] at hw
 omega
theorem dat_u8 {n : Nat} {x : PV} (h : Dat tE (n + 1) 5 x) : ∃ k : UInt8, x = .int .u8 k.toNat := by
 obtain ⟨k, rfl, hw⟩ := (h : ∃ i, x = .int .u8 i ∧ (Lit.int .u8 i).wf = true)
 simp [Lit.wf, IntKind.has, IntKind.min, IntKind.max, IntKind.signed, IntKind.bits] at hw
 refine ⟨UInt8.ofNat k.toNat, ?_⟩
 have : (UInt8.ofNat k.toNat).toNat = k.toNat := by simp; omega
 rw [this]
 congr 1; omega
theorem dat_str {n : Nat} {x : PV} (h : Dat tE (n + 1) 9 x) : ∃ s : ByteArray, x = .str s ∧ s.size ≤ maxLen := h
theorem dat_list {n : Nat} {e t : TypeId} {x : PV} {α : Type} {f : α → PV} {P : α → Prop} (h : ∃ xs, x = .lit xs ∧ xs.length ≤ maxLen ∧ ∀ y ∈ xs, Dat tE n e y) (hf : ∀ y, Dat tE n e y → ∃ a, y = f a ∧ P a) :
  ∃ l : List α, x = .lit (l.map f) ∧ l.length ≤ maxLen ∧ ∀ a ∈ l, P a := by
 obtain ⟨xs, rfl, hl, hx⟩ := h
 have : ∃ l : List α, xs = l.map f ∧ ∀ a ∈ l, P a := by
  clear hl
  induction xs with
  | nil => exact ⟨[], rfl, by simp⟩
  | cons y ys ih =>
   obtain ⟨a, rfl, ha⟩ := hf y (hx y (by simp))
   obtain ⟨l, rfl, hl⟩ := ih fun y hy => hx y (by simp [hy])
   exact ⟨a :: l, rfl, fun b hb => by rcases List.mem_cons.1 hb with rfl | hb; exact ha; exact hl b hb⟩
 obtain ⟨l, rfl, h2⟩ := this
 exact ⟨l, rfl, by simpa using hl, h2⟩
theorem dat_bytes {n : Nat} {x : PV} (h : Dat tE (n + 2) 32 x) : ∃ l : List UInt8, x = u8s l ∧ l.length ≤ maxLen := by
 obtain ⟨l, rfl, h1, _⟩ := dat_list (t := 0) (f := fun b : UInt8 => PV.int .u8 b.toNat) (P := fun _ => True) (h : ∃ xs, x = .lit xs ∧ xs.length ≤ maxLen ∧ ∀ y ∈ xs, Dat tE (n + 1) 5 y) (fun y hy => by
  obtain ⟨k, rfl⟩ := dat_u8 hy
  exact ⟨k, rfl, trivial⟩)
 exact ⟨l, rfl, h1⟩
theorem dat_ints {n : Nat} {x : PV} (h : Dat tE (n + 2) 33 x) : ∃ l : List Int, x = .lit (ints l) ∧ l.length ≤ maxLen ∧ ∀ k ∈ l, -9223372036854775808 ≤ k ∧ k ≤ 9223372036854775807 :=
 dat_list (t := 0) (f := i64) (P := fun k => -9223372036854775808 ≤ k ∧ k ≤ 9223372036854775807) (h : ∃ xs, x = .lit xs ∧ xs.length ≤ maxLen ∧ ∀ y ∈ xs, Dat tE (n + 1) 3 y) (fun y hy => dat_int hy)
end
end Go.Proofs.YtdplbgfokoajjaaGreat
end
