/- The statements' own functions: Do, Great; New where it may not be. -/
import Derived.Test.YthllcknfidnfaaaDs
set_option linter.unusedVariables false
set_option linter.unusedSimpArgs false
set_option maxRecDepth 4000
namespace Go.Proofs.Ythllcknfidnfaaa
open Go
attribute [local simp] RF_nil RF_cons afterRF_ret nilCmp sop sGuard isCall sCallee Fr.eval Fr.get Fr.put ofConst sLoad sStore sBuiltin Fr.args bodyQ sRes oneOf sBin sInt sUn
attribute [local simp] RD_nil RD_cons noConf clear accAdd Tab.pr Tab.slot foot wid idOf refId Op.operands Call.operands sFieldAddr sNilCheck sLookup keyLit sMapSet sMapDel sLen Store.at Store.new getP setP typeAt fits evalParts sBuildSlice sFill sList sApp sAppend frzRe frz pureB pureL
attribute [local simp] dkB dkS u8s optEval sSlice sIndexAddr

def encOp (o : OpV) : PV := .agg 35 [i64 o.what, .str o.name, .str o.to, u8s o.b, i64 o.n, .lit (ints o.keep)]

section
variable {R : Re → Store → Prop} {σ : Store} {d : Dk} {s t : ByteArray} {b : List UInt8} {keep : List Int} {i j : Nat} {n : Int} {o : OpV}
theorem C_sync_at (h0 : DkAt σ i j d) (hI : Inv d) (hs : s.size ≤ maxLen) (h : R (.ret (i64 (sync d s).1)) (dkPut σ i j (sync d s).2)) : C tE 27 [.ptr i 0 0 [], .str s] σ R :=
  C_at (args := [.ptr 0 0 0 [], .str s]) h0 rfl (fun R h => C_sync hI hs h) (fun τ => rfl) h
theorem C_delete_at (h0 : DkAt σ i j d) (hI : Inv d) (hs : s.size ≤ maxLen) (h : R (.ret (i64 (delete d s).1)) (dkPut σ i j (delete d s).2)) : C tE 30 [.ptr i 0 0 [], .str s] σ R :=
  C_at (args := [.ptr 0 0 0 [], .str s]) h0 rfl (fun R h => C_delete hI hs h) (fun τ => rfl) h
theorem C_rename_at (h0 : DkAt σ i j d) (hI : Inv d) (hs : s.size ≤ maxLen) (h : R (.ret (i64 (rename d s t).1)) (dkPut σ i j (rename d s t).2)) : C tE 29 [.ptr i 0 0 [], .str s, .str t] σ R :=
  C_at (args := [.ptr 0 0 0 [], .str s, .str t]) h0 rfl (fun R h => C_rename hI hs h) (fun τ => rfl) h
theorem C_write_at (h0 : DkAt σ i j d) (hI : Inv d) (hs : s.size ≤ maxLen) (h : R (.ret (i64 (write d s b).1)) (dkPut σ i j (write d s b).2)) : C tE 18 [.ptr i 0 0 [], .str s, u8s b] σ R :=
  C_at (args := [.ptr 0 0 0 [], .str s, u8s b]) h0 rfl (fun R h => C_write hI hs h) (fun τ => rfl) h
theorem C_fuse_at (h0 : DkAt σ i j d) (h : R (.ret (.tup [])) (dkPut σ i j (setFuse d n))) : C tE 16 [.ptr i 0 0 [], i64 n] σ R :=
  C_at (args := [.ptr 0 0 0 [], i64 n]) h0 rfl (fun R h => C_fuse h) (fun τ => rfl) h
theorem C_fail_at (h0 : DkAt σ i j d) (h : R (.ret (.tup [])) (dkPut σ i j (setFail d n))) : C tE 28 [.ptr i 0 0 [], i64 n] σ R :=
  C_at (args := [.ptr 0 0 0 [], i64 n]) h0 rfl (fun R h => C_fail h) (fun τ => rfl) h
theorem C_crash_at (h0 : DkAt σ i j d) (hI : Inv d) (hk : ∀ k ∈ keep, k ≤ 9223372036854775807) (hkl : keep.length ≤ 9223372036854775807) (h : R (.ret (.tup [])) (dkPut σ i j (crash d keep))) : C tE 17 [.ptr i 0 0 [], .lit (ints keep)] σ R :=
  C_at (args := [.ptr 0 0 0 [], .lit (ints keep)]) h0 rfl (fun R h => C_crash' hI hk hkl h) (fun τ => rfl) h
theorem frz_strs (τ : Store) (l : List (List UInt8)) : frz τ 6 (.lit (strs l)) = some (.lit (strs l)) := rfl
theorem C_list_at (h0 : DkAt σ i j d) (hI : Inv d) (h : R (.ret (.lit (strs (names d)))) σ) : C tE 13 [.ptr i 0 0 []] σ R :=
  C_at0 (args := [.ptr 0 0 0 []]) h0 rfl (fun R h => C_list (by have := hI.n; omega) h) (fun τ => rfl) h
theorem C_read_at (h0 : DkAt σ i j d) (hI : Inv d) (hs : s.size ≤ maxLen) (h : R (.ret (.tup [u8s ((dget s.data.toList d.files).elim [] (·.b)), .bool (dget s.data.toList d.files).isSome])) σ) : C tE 19 [.ptr i 0 0 [], .str s] σ R :=
  C_at0 (args := [.ptr 0 0 0 [], .str s]) h0 rfl (fun R h => C_read hs (fun f hf => by have := (hI.flOK hf).sz; omega) h) (fun τ => rfl) h
theorem C_synced_at (h0 : DkAt σ i j d) (hs : s.size ≤ maxLen) (h : R (.ret (i64 ((dget s.data.toList d.files).elim 0 (·.last)))) σ) : C tE 25 [.ptr i 0 0 [], .str s] σ R :=
  C_at0 (args := [.ptr 0 0 0 [], .str s]) h0 rfl (fun R h => C_synced hs h) (fun τ => rfl) h

theorem C_do (hI : Inv d) (ho : o.OK) (h : R (.ret (i64 (doOp d o).1)) (dkS (doOp d o).2)) : C tE 14 [.ptr 0 0 0 [], encOp o] (dkS d) R := by
  refine C_new tOK ?_
  have h0 : DkAt (dkS d ++ [some (.cells 35 0 [encOp o])]) 0 1 d := ⟨by decide, rfl, rfl⟩
  unfold encOp at h0 ⊢
  unfold doOp at h
  cases h3 : o.what == 3 with
  | true =>
    refine C_bodyk tOK Try.func14 rfl (Nat.le_of_ble_eq_true rfl) fun K hK => ?_; simp
    repeat (first | (refine T_seqk fun K hK => ?_) | (refine T_reg tOK rfl ?_; simp [h3]) | (refine T_ret ?_; try simp) | (refine T_skip ?_; try simp) | (refine T_blockk fun K hK => ?_) | apply_assumption -exfalso -symm | (rw [afterRF_ret]; simp [h3]) | (refine T_exit ?_; try simp) | (refine T_cond_t ?_ ?_; · (simp; done)) | (refine T_cond_f ?_ ?_; · (simp; done)) | (rintro _ _ (_ | _) hz9 <;> first | (simp; done) | (simp at hz9; done)) | (refine And.intro ?_ ?_) | (simp only [Post.block_ret, Post.block_exit, Post.block_normal, Post.block_pan, Post.seq_ret, Post.seq_exit, Post.seq_normal, Post.seq_pan]; try simp [h3]) | (refine T_loop (TL_round ?_)) | (refine TL_round ?_))
    refine C_sync_at (j := 1) h0 hI ho.name ?_
    simp
    repeat (first | (refine T_seqk fun K hK => ?_) | (refine T_reg tOK rfl ?_; simp [h3]) | (refine T_ret ?_; try simp) | (refine T_skip ?_; try simp) | (refine T_blockk fun K hK => ?_) | apply_assumption -exfalso -symm | (rw [afterRF_ret]; simp [h3]) | (refine T_exit ?_; try simp) | (refine T_cond_t ?_ ?_; · (simp; done)) | (refine T_cond_f ?_ ?_; · (simp; done)) | (rintro _ _ (_ | _) hz9 <;> first | (simp; done) | (simp at hz9; done)) | (refine And.intro ?_ ?_) | (simp only [Post.block_ret, Post.block_exit, Post.block_normal, Post.block_pan, Post.seq_ret, Post.seq_exit, Post.seq_normal, Post.seq_pan]; try simp [h3]) | (refine T_loop (TL_round ?_)) | (refine TL_round ?_))
    · exact .inr (dkS_all (sync d o.name).2)
    · simpa [frzT, frzN, dkPut, dkBj, dkM,h3] using h
  | false =>
    cases h4 : o.what == 4 with
    | true =>
      refine C_bodyk tOK Try.func14 rfl (Nat.le_of_ble_eq_true rfl) fun K hK => ?_; simp
      repeat (first | (refine T_seqk fun K hK => ?_) | (refine T_reg tOK rfl ?_; simp [h3,h4]) | (refine T_ret ?_; try simp) | (refine T_skip ?_; try simp) | (refine T_blockk fun K hK => ?_) | apply_assumption -exfalso -symm | (rw [afterRF_ret]; simp [h3,h4]) | (refine T_exit ?_; try simp) | (refine T_cond_t ?_ ?_; · (simp; done)) | (refine T_cond_f ?_ ?_; · (simp; done)) | (rintro _ _ (_ | _) hz9 <;> first | (simp; done) | (simp at hz9; done)) | (refine And.intro ?_ ?_) | (simp only [Post.block_ret, Post.block_exit, Post.block_normal, Post.block_pan, Post.seq_ret, Post.seq_exit, Post.seq_normal, Post.seq_pan]; try simp [h3,h4]) | (refine T_loop (TL_round ?_)) | (refine TL_round ?_))
      refine C_sync_at (j := 1) h0 hI ho.name ?_
      simp
      repeat (first | (refine T_seqk fun K hK => ?_) | (refine T_reg tOK rfl ?_; simp [h3,h4]) | (refine T_ret ?_; try simp) | (refine T_skip ?_; try simp) | (refine T_blockk fun K hK => ?_) | apply_assumption -exfalso -symm | (rw [afterRF_ret]; simp [h3,h4]) | (refine T_exit ?_; try simp) | (refine T_cond_t ?_ ?_; · (simp; done)) | (refine T_cond_f ?_ ?_; · (simp; done)) | (rintro _ _ (_ | _) hz9 <;> first | (simp; done) | (simp at hz9; done)) | (refine And.intro ?_ ?_) | (simp only [Post.block_ret, Post.block_exit, Post.block_normal, Post.block_pan, Post.seq_ret, Post.seq_exit, Post.seq_normal, Post.seq_pan]; try simp [h3,h4]) | (refine T_loop (TL_round ?_)) | (refine TL_round ?_))
      · exact .inr (dkS_all (sync d o.name).2)
      · simpa [frzT, frzN, dkPut, dkBj, dkM,h3,h4] using h
    | false =>
      cases h5 : o.what == 5 with
      | true =>
        refine C_bodyk tOK Try.func14 rfl (Nat.le_of_ble_eq_true rfl) fun K hK => ?_; simp
        repeat (first | (refine T_seqk fun K hK => ?_) | (refine T_reg tOK rfl ?_; simp [h3,h4,h5]) | (refine T_ret ?_; try simp) | (refine T_skip ?_; try simp) | (refine T_blockk fun K hK => ?_) | apply_assumption -exfalso -symm | (rw [afterRF_ret]; simp [h3,h4,h5]) | (refine T_exit ?_; try simp) | (refine T_cond_t ?_ ?_; · (simp; done)) | (refine T_cond_f ?_ ?_; · (simp; done)) | (rintro _ _ (_ | _) hz9 <;> first | (simp; done) | (simp at hz9; done)) | (refine And.intro ?_ ?_) | (simp only [Post.block_ret, Post.block_exit, Post.block_normal, Post.block_pan, Post.seq_ret, Post.seq_exit, Post.seq_normal, Post.seq_pan]; try simp [h3,h4,h5]) | (refine T_loop (TL_round ?_)) | (refine TL_round ?_))
        refine C_rename_at (j := 1) h0 hI ho.name ?_
        simp
        repeat (first | (refine T_seqk fun K hK => ?_) | (refine T_reg tOK rfl ?_; simp [h3,h4,h5]) | (refine T_ret ?_; try simp) | (refine T_skip ?_; try simp) | (refine T_blockk fun K hK => ?_) | apply_assumption -exfalso -symm | (rw [afterRF_ret]; simp [h3,h4,h5]) | (refine T_exit ?_; try simp) | (refine T_cond_t ?_ ?_; · (simp; done)) | (refine T_cond_f ?_ ?_; · (simp; done)) | (rintro _ _ (_ | _) hz9 <;> first | (simp; done) | (simp at hz9; done)) | (refine And.intro ?_ ?_) | (simp only [Post.block_ret, Post.block_exit, Post.block_normal, Post.block_pan, Post.seq_ret, Post.seq_exit, Post.seq_normal, Post.seq_pan]; try simp [h3,h4,h5]) | (refine T_loop (TL_round ?_)) | (refine TL_round ?_))
        · exact .inr (dkS_all (rename d o.name o.to).2)
        · simpa [frzT, frzN, dkPut, dkBj, dkM,h3,h4,h5] using h
      | false =>
        cases h6 : o.what == 6 with
        | true =>
          refine C_bodyk tOK Try.func14 rfl (Nat.le_of_ble_eq_true rfl) fun K hK => ?_; simp
          repeat (first | (refine T_seqk fun K hK => ?_) | (refine T_reg tOK rfl ?_; simp [h3,h4,h5,h6]) | (refine T_ret ?_; try simp) | (refine T_skip ?_; try simp) | (refine T_blockk fun K hK => ?_) | apply_assumption -exfalso -symm | (rw [afterRF_ret]; simp [h3,h4,h5,h6]) | (refine T_exit ?_; try simp) | (refine T_cond_t ?_ ?_; · (simp; done)) | (refine T_cond_f ?_ ?_; · (simp; done)) | (rintro _ _ (_ | _) hz9 <;> first | (simp; done) | (simp at hz9; done)) | (refine And.intro ?_ ?_) | (simp only [Post.block_ret, Post.block_exit, Post.block_normal, Post.block_pan, Post.seq_ret, Post.seq_exit, Post.seq_normal, Post.seq_pan]; try simp [h3,h4,h5,h6]) | (refine T_loop (TL_round ?_)) | (refine TL_round ?_))
          refine C_delete_at (j := 1) h0 hI ho.name ?_
          simp
          repeat (first | (refine T_seqk fun K hK => ?_) | (refine T_reg tOK rfl ?_; simp [h3,h4,h5,h6]) | (refine T_ret ?_; try simp) | (refine T_skip ?_; try simp) | (refine T_blockk fun K hK => ?_) | apply_assumption -exfalso -symm | (rw [afterRF_ret]; simp [h3,h4,h5,h6]) | (refine T_exit ?_; try simp) | (refine T_cond_t ?_ ?_; · (simp; done)) | (refine T_cond_f ?_ ?_; · (simp; done)) | (rintro _ _ (_ | _) hz9 <;> first | (simp; done) | (simp at hz9; done)) | (refine And.intro ?_ ?_) | (simp only [Post.block_ret, Post.block_exit, Post.block_normal, Post.block_pan, Post.seq_ret, Post.seq_exit, Post.seq_normal, Post.seq_pan]; try simp [h3,h4,h5,h6]) | (refine T_loop (TL_round ?_)) | (refine TL_round ?_))
          · exact .inr (dkS_all (delete d o.name).2)
          · simpa [frzT, frzN, dkPut, dkBj, dkM,h3,h4,h5,h6] using h
        | false =>
          cases h7 : o.what == 7 with
          | true =>
            refine C_bodyk tOK Try.func14 rfl (Nat.le_of_ble_eq_true rfl) fun K hK => ?_; simp
            repeat (first | (refine T_seqk fun K hK => ?_) | (refine T_reg tOK rfl ?_; simp [h3,h4,h5,h6,h7]) | (refine T_ret ?_; try simp) | (refine T_skip ?_; try simp) | (refine T_blockk fun K hK => ?_) | apply_assumption -exfalso -symm | (rw [afterRF_ret]; simp [h3,h4,h5,h6,h7]) | (refine T_exit ?_; try simp) | (refine T_cond_t ?_ ?_; · (simp; done)) | (refine T_cond_f ?_ ?_; · (simp; done)) | (rintro _ _ (_ | _) hz9 <;> first | (simp; done) | (simp at hz9; done)) | (refine And.intro ?_ ?_) | (simp only [Post.block_ret, Post.block_exit, Post.block_normal, Post.block_pan, Post.seq_ret, Post.seq_exit, Post.seq_normal, Post.seq_pan]; try simp [h3,h4,h5,h6,h7]) | (refine T_loop (TL_round ?_)) | (refine TL_round ?_))
            refine C_fuse_at (j := 1) h0 ?_
            simp
            repeat (first | (refine T_seqk fun K hK => ?_) | (refine T_reg tOK rfl ?_; simp [h3,h4,h5,h6,h7]) | (refine T_ret ?_; try simp) | (refine T_skip ?_; try simp) | (refine T_blockk fun K hK => ?_) | apply_assumption -exfalso -symm | (rw [afterRF_ret]; simp [h3,h4,h5,h6,h7]) | (refine T_exit ?_; try simp) | (refine T_cond_t ?_ ?_; · (simp; done)) | (refine T_cond_f ?_ ?_; · (simp; done)) | (rintro _ _ (_ | _) hz9 <;> first | (simp; done) | (simp at hz9; done)) | (refine And.intro ?_ ?_) | (simp only [Post.block_ret, Post.block_exit, Post.block_normal, Post.block_pan, Post.seq_ret, Post.seq_exit, Post.seq_normal, Post.seq_pan]; try simp [h3,h4,h5,h6,h7]) | (refine T_loop (TL_round ?_)) | (refine TL_round ?_))
            · exact .inr (dkS_all (setFuse d o.n))
            · simpa [frzT, frzN, dkPut, dkBj, dkM,h3,h4,h5,h6,h7] using h
          | false =>
            cases h8 : o.what == 8 with
            | true =>
              refine C_bodyk tOK Try.func14 rfl (Nat.le_of_ble_eq_true rfl) fun K hK => ?_; simp
              repeat (first | (refine T_seqk fun K hK => ?_) | (refine T_reg tOK rfl ?_; simp [h3,h4,h5,h6,h7,h8]) | (refine T_ret ?_; try simp) | (refine T_skip ?_; try simp) | (refine T_blockk fun K hK => ?_) | apply_assumption -exfalso -symm | (rw [afterRF_ret]; simp [h3,h4,h5,h6,h7,h8]) | (refine T_exit ?_; try simp) | (refine T_cond_t ?_ ?_; · (simp; done)) | (refine T_cond_f ?_ ?_; · (simp; done)) | (rintro _ _ (_ | _) hz9 <;> first | (simp; done) | (simp at hz9; done)) | (refine And.intro ?_ ?_) | (simp only [Post.block_ret, Post.block_exit, Post.block_normal, Post.block_pan, Post.seq_ret, Post.seq_exit, Post.seq_normal, Post.seq_pan]; try simp [h3,h4,h5,h6,h7,h8]) | (refine T_loop (TL_round ?_)) | (refine TL_round ?_))
              refine C_fail_at (j := 1) h0 ?_
              simp
              repeat (first | (refine T_seqk fun K hK => ?_) | (refine T_reg tOK rfl ?_; simp [h3,h4,h5,h6,h7,h8]) | (refine T_ret ?_; try simp) | (refine T_skip ?_; try simp) | (refine T_blockk fun K hK => ?_) | apply_assumption -exfalso -symm | (rw [afterRF_ret]; simp [h3,h4,h5,h6,h7,h8]) | (refine T_exit ?_; try simp) | (refine T_cond_t ?_ ?_; · (simp; done)) | (refine T_cond_f ?_ ?_; · (simp; done)) | (rintro _ _ (_ | _) hz9 <;> first | (simp; done) | (simp at hz9; done)) | (refine And.intro ?_ ?_) | (simp only [Post.block_ret, Post.block_exit, Post.block_normal, Post.block_pan, Post.seq_ret, Post.seq_exit, Post.seq_normal, Post.seq_pan]; try simp [h3,h4,h5,h6,h7,h8]) | (refine T_loop (TL_round ?_)) | (refine TL_round ?_))
              · exact .inr (dkS_all (setFail d o.n))
              · simpa [frzT, frzN, dkPut, dkBj, dkM,h3,h4,h5,h6,h7,h8] using h
            | false =>
              cases h9 : o.what == 9 with
              | true =>
                refine C_bodyk tOK Try.func14 rfl (Nat.le_of_ble_eq_true rfl) fun K hK => ?_; simp
                repeat (first | (refine T_seqk fun K hK => ?_) | (refine T_reg tOK rfl ?_; simp [h3,h4,h5,h6,h7,h8,h9]) | (refine T_ret ?_; try simp) | (refine T_skip ?_; try simp) | (refine T_blockk fun K hK => ?_) | apply_assumption -exfalso -symm | (rw [afterRF_ret]; simp [h3,h4,h5,h6,h7,h8,h9]) | (refine T_exit ?_; try simp) | (refine T_cond_t ?_ ?_; · (simp; done)) | (refine T_cond_f ?_ ?_; · (simp; done)) | (rintro _ _ (_ | _) hz9 <;> first | (simp; done) | (simp at hz9; done)) | (refine And.intro ?_ ?_) | (simp only [Post.block_ret, Post.block_exit, Post.block_normal, Post.block_pan, Post.seq_ret, Post.seq_exit, Post.seq_normal, Post.seq_pan]; try simp [h3,h4,h5,h6,h7,h8,h9]) | (refine T_loop (TL_round ?_)) | (refine TL_round ?_))
                refine C_crash_at (j := 1) h0 hI ho.keep ho.keepl ?_
                simp
                repeat (first | (refine T_seqk fun K hK => ?_) | (refine T_reg tOK rfl ?_; simp [h3,h4,h5,h6,h7,h8,h9]) | (refine T_ret ?_; try simp) | (refine T_skip ?_; try simp) | (refine T_blockk fun K hK => ?_) | apply_assumption -exfalso -symm | (rw [afterRF_ret]; simp [h3,h4,h5,h6,h7,h8,h9]) | (refine T_exit ?_; try simp) | (refine T_cond_t ?_ ?_; · (simp; done)) | (refine T_cond_f ?_ ?_; · (simp; done)) | (rintro _ _ (_ | _) hz9 <;> first | (simp; done) | (simp at hz9; done)) | (refine And.intro ?_ ?_) | (simp only [Post.block_ret, Post.block_exit, Post.block_normal, Post.block_pan, Post.seq_ret, Post.seq_exit, Post.seq_normal, Post.seq_pan]; try simp [h3,h4,h5,h6,h7,h8,h9]) | (refine T_loop (TL_round ?_)) | (refine TL_round ?_))
                · exact .inr (dkS_all (crash d o.keep))
                · simpa [frzT, frzN, dkPut, dkBj, dkM,h3,h4,h5,h6,h7,h8,h9] using h
              | false =>
                refine C_bodyk tOK Try.func14 rfl (Nat.le_of_ble_eq_true rfl) fun K hK => ?_; simp
                repeat (first | (refine T_seqk fun K hK => ?_) | (refine T_reg tOK rfl ?_; simp [h3,h4,h5,h6,h7,h8,h9]) | (refine T_ret ?_; try simp) | (refine T_skip ?_; try simp) | (refine T_blockk fun K hK => ?_) | apply_assumption -exfalso -symm | (rw [afterRF_ret]; simp [h3,h4,h5,h6,h7,h8,h9]) | (refine T_exit ?_; try simp) | (refine T_cond_t ?_ ?_; · (simp; done)) | (refine T_cond_f ?_ ?_; · (simp; done)) | (rintro _ _ (_ | _) hz9 <;> first | (simp; done) | (simp at hz9; done)) | (refine And.intro ?_ ?_) | (simp only [Post.block_ret, Post.block_exit, Post.block_normal, Post.block_pan, Post.seq_ret, Post.seq_exit, Post.seq_normal, Post.seq_pan]; try simp [h3,h4,h5,h6,h7,h8,h9]) | (refine T_loop (TL_round ?_)) | (refine TL_round ?_))
                refine C_write_at (j := 1) h0 hI ho.name ?_
                simp
                repeat (first | (refine T_seqk fun K hK => ?_) | (refine T_reg tOK rfl ?_; simp [h3,h4,h5,h6,h7,h8,h9]) | (refine T_ret ?_; try simp) | (refine T_skip ?_; try simp) | (refine T_blockk fun K hK => ?_) | apply_assumption -exfalso -symm | (rw [afterRF_ret]; simp [h3,h4,h5,h6,h7,h8,h9]) | (refine T_exit ?_; try simp) | (refine T_cond_t ?_ ?_; · (simp; done)) | (refine T_cond_f ?_ ?_; · (simp; done)) | (rintro _ _ (_ | _) hz9 <;> first | (simp; done) | (simp at hz9; done)) | (refine And.intro ?_ ?_) | (simp only [Post.block_ret, Post.block_exit, Post.block_normal, Post.block_pan, Post.seq_ret, Post.seq_exit, Post.seq_normal, Post.seq_pan]; try simp [h3,h4,h5,h6,h7,h8,h9]) | (refine T_loop (TL_round ?_)) | (refine TL_round ?_))
                · exact .inr (dkS_all (write d o.name o.b).2)
                · simpa [frzT, frzN, dkPut, dkBj, dkM,h3,h4,h5,h6,h7,h8,h9] using h
end
end Go.Proofs.Ythllcknfidnfaaa
