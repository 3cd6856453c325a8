/- Package disk: Delete. -/
import Derived.Test.YthllcknfidnfaaaDh
set_option linter.unusedVariables false
set_option linter.unusedSimpArgs false
set_option maxRecDepth 4000
namespace Go.Proofs.Ythllcknfidnfaaa
open Go
attribute [local simp] RF_nil RF_cons afterRF_ret nilCmp sop sGuard isCall sCallee Fr.eval Fr.get Fr.put ofConst sLoad sStore sBuiltin Fr.args bodyQ sRes oneOf sBin sInt sUn
attribute [local simp] RD_nil RD_cons noConf clear accAdd Tab.pr Tab.slot foot wid idOf refId Op.operands Call.operands sFieldAddr sNilCheck sLookup keyLit sMapSet sMapDel sLen Store.at Store.new getP setP typeAt fits evalParts sBuildSlice sFill sList sApp sAppend frzRe frz pureB pureL
attribute [local simp] dkB dkS u8s
section
variable {R : Re → Store → Prop} {d : Dk} {s : ByteArray}
theorem C_delete_dead (hs : s.size ≤ maxLen) (hf : d.fuse = 0) (h : R (.ret (i64 42)) (dkS d)) : C tE 30 [.ptr 0 0 0 [], .str s] (dkS d) R := by
  refine C_new tOK ?_
  refine C_bodyk tOK Try.func30 rfl (Nat.le_of_ble_eq_true rfl) fun K hK => ?_; simp
  repeat (first | (refine T_seqk fun K hK => ?_) | (refine T_reg tOK rfl ?_; simp [hf]) | (refine T_ret ?_; try simp) | (refine T_skip ?_; try simp) | (refine T_blockk fun K hK => ?_) | apply_assumption -exfalso -symm | (rw [afterRF_ret]; simp [hf]) | (refine T_exit ?_; try simp) | (refine T_cond_t ?_ ?_; · (simp; done)) | (refine T_cond_f ?_ ?_; · (simp; done)) | (rintro _ _ (_ | _) hz9 <;> first | (simp; done) | (simp at hz9; done)) | (refine And.intro ?_ ?_) | (simp only [Post.block_ret, Post.block_exit, Post.block_normal, Post.block_pan, Post.seq_ret, Post.seq_exit, Post.seq_normal, Post.seq_pan]; try simp [hf]) | (refine T_loop (TL_round ?_)) | (refine TL_round ?_) | (refine T_draw tOK tmix [([], 0), ([], 1), ([], 2), ([], 3), ([1, 2, 3], 4), ([0, 1, 2, 3, 4], 5), ([0, 1, 2, 3, 4, 5], 6)] 5 (by decide +kernel) ?_; simp [hf]))
  refine RD_call (rd := [0, 2, 3]) (fun τ hτ => C_have (at_lt ((hτ 2 (by simp)).trans rfl)) (at_lt ((hτ 3 (by simp)).trans rfl)) (at_lt ((hτ 0 (by simp)).trans rfl)) ⟨rfl, rfl⟩) ?_
  simp
  repeat (first | (refine T_seqk fun K hK => ?_) | (refine T_reg tOK rfl ?_; simp [hf]) | (refine T_ret ?_; try simp) | (refine T_skip ?_; try simp) | (refine T_blockk fun K hK => ?_) | apply_assumption -exfalso -symm | (rw [afterRF_ret]; simp [hf]) | (refine T_exit ?_; try simp) | (refine T_cond_t ?_ ?_; · (simp; done)) | (refine T_cond_f ?_ ?_; · (simp; done)) | (rintro _ _ (_ | _) hz9 <;> first | (simp; done) | (simp at hz9; done)) | (refine And.intro ?_ ?_) | (simp only [Post.block_ret, Post.block_exit, Post.block_normal, Post.block_pan, Post.seq_ret, Post.seq_exit, Post.seq_normal, Post.seq_pan]; try simp [hf]) | (refine T_loop (TL_round ?_)) | (refine TL_round ?_) | (refine T_draw tOK tmix [([], 0), ([], 1), ([], 2), ([], 3), ([1, 2, 3], 4), ([0, 1, 2, 3, 4], 5), ([0, 1, 2, 3, 4, 5], 6)] 5 (by decide +kernel) ?_; simp [hf]) | (refine C_bodyk tOK Try.func33 rfl (Nat.le_of_ble_eq_true rfl) fun K hK => ?_; simp))
  · left; simp [hf]
  · simpa [frzT, frzN, hf] using h
theorem C_delete_none (hs : s.size ≤ maxLen) (hf : (d.fuse == 0) = false) (hw : IntKind.i64.wrap (d.fuse - 1) = d.fuse - 1) (hg : dget s.data.toList d.files = none) (h : R (.ret (i64 3)) (dkS (burn d))) :
    C tE 30 [.ptr 0 0 0 [], .str s] (dkS d) R := by
  have hm := mget_enc s.data.toList d.files
  rw [hg] at hm
  refine C_new tOK ?_
  refine C_bodyk tOK Try.func30 rfl (Nat.le_of_ble_eq_true rfl) fun K hK => ?_; simp
  repeat (first | (refine T_seqk fun K hK => ?_) | (refine T_reg tOK rfl ?_; simp [hf,hw]) | (refine T_ret ?_; try simp) | (refine T_skip ?_; try simp) | (refine T_blockk fun K hK => ?_) | apply_assumption -exfalso -symm | (rw [afterRF_ret]; simp [hf,hw]) | (refine T_exit ?_; try simp) | (refine T_cond_t ?_ ?_; · (simp; done)) | (refine T_cond_f ?_ ?_; · (simp; done)) | (rintro _ _ (_ | _) hz9 <;> first | (simp; done) | (simp at hz9; done)) | (refine And.intro ?_ ?_) | (simp only [Post.block_ret, Post.block_exit, Post.block_normal, Post.block_pan, Post.seq_ret, Post.seq_exit, Post.seq_normal, Post.seq_pan]; try simp [hf,hw]) | (refine T_loop (TL_round ?_)) | (refine TL_round ?_) | (refine T_draw tOK tmix [([], 0), ([], 1), ([], 2), ([], 3), ([1, 2, 3], 4), ([0, 1, 2, 3, 4], 5), ([0, 1, 2, 3, 4, 5], 6)] 5 (by decide +kernel) ?_; simp [hf,hw]))
  refine RD_call (rd := [0, 2, 3]) (fun τ hτ => C_have (at_lt ((hτ 2 (by simp)).trans rfl)) (at_lt ((hτ 3 (by simp)).trans rfl)) (at_lt ((hτ 0 (by simp)).trans rfl)) ⟨rfl, rfl⟩) ?_
  simp
  repeat (first | (refine T_seqk fun K hK => ?_) | (refine T_reg tOK rfl ?_; simp [hf,hw,hs,hm]) | (refine T_ret ?_; try simp) | (refine T_skip ?_; try simp) | (refine T_blockk fun K hK => ?_) | apply_assumption -exfalso -symm | (rw [afterRF_ret]; simp [hf,hw,hs,hm]) | (refine T_exit ?_; try simp) | (refine T_cond_t ?_ ?_; · (simp; done)) | (refine T_cond_f ?_ ?_; · (simp; done)) | (rintro _ _ (_ | _) hz9 <;> first | (simp; done) | (simp at hz9; done)) | (refine And.intro ?_ ?_) | (simp only [Post.block_ret, Post.block_exit, Post.block_normal, Post.block_pan, Post.seq_ret, Post.seq_exit, Post.seq_normal, Post.seq_pan]; try simp [hf,hw,hs,hm]) | (refine T_loop (TL_round ?_)) | (refine TL_round ?_) | (refine T_draw tOK tmix [([], 0), ([], 1), ([], 2), ([], 3), ([1, 2, 3], 4), ([0, 1, 2, 3, 4], 5), ([0, 1, 2, 3, 4, 5], 6)] 5 (by decide +kernel) ?_; simp [hf,hw,hs,hm]) | (refine T_draw tOK tmix [([], 1), ([0], 2), ([0, 1], 3), ([0, 1, 2], 4), ([], 5), ([0, 1, 2, 3, 4], 6), ([0, 1, 2, 3, 4, 5], 7), ([0, 1, 2, 3, 4, 5, 6], 8), ([0, 1, 2, 3, 4, 5, 6], 9), ([], 0), ([0, 1, 2, 3, 4, 5, 6, 7, 9], 10), ([0, 1, 2, 3, 4, 5, 6, 7, 8, 9, 10], 11)] 11 (by decide +kernel) ?_; simp [hf,hw,hs,hm]) | (refine C_bodyk tOK Try.func33 rfl (Nat.le_of_ble_eq_true rfl) fun K hK => ?_; simp) | (refine C_bodyk tOK Try.func61 rfl (Nat.le_of_ble_eq_true rfl) fun K hK => ?_; simp))
  · right; simp [allStore, allBlk, allL, allB]
    exact fun a b => encFs_all _ _ (a, b)
  · simpa [frzT, frzN, burn] using h
theorem C_delete_ok (hs : s.size ≤ maxLen) (hf : (d.fuse == 0) = false) (hw : IntKind.i64.wrap (d.fuse - 1) = d.fuse - 1) {f : Fl} (hg : dget s.data.toList d.files = some f)
    (h : R (.ret (i64 0)) (dkS { burn d with files := ddel s.data.toList d.files })) : C tE 30 [.ptr 0 0 0 [], .str s] (dkS d) R := by
  have hm := mget_enc s.data.toList d.files
  rw [hg] at hm
  have hq := mdel_enc s.data.toList d.files
  refine C_new tOK ?_
  refine C_bodyk tOK Try.func30 rfl (Nat.le_of_ble_eq_true rfl) fun K hK => ?_; simp
  repeat (first | (refine T_seqk fun K hK => ?_) | (refine T_reg tOK rfl ?_; simp [hf,hw]) | (refine T_ret ?_; try simp) | (refine T_skip ?_; try simp) | (refine T_blockk fun K hK => ?_) | apply_assumption -exfalso -symm | (rw [afterRF_ret]; simp [hf,hw]) | (refine T_exit ?_; try simp) | (refine T_cond_t ?_ ?_; · (simp; done)) | (refine T_cond_f ?_ ?_; · (simp; done)) | (rintro _ _ (_ | _) hz9 <;> first | (simp; done) | (simp at hz9; done)) | (refine And.intro ?_ ?_) | (simp only [Post.block_ret, Post.block_exit, Post.block_normal, Post.block_pan, Post.seq_ret, Post.seq_exit, Post.seq_normal, Post.seq_pan]; try simp [hf,hw]) | (refine T_loop (TL_round ?_)) | (refine TL_round ?_) | (refine T_draw tOK tmix [([], 0), ([], 1), ([], 2), ([], 3), ([1, 2, 3], 4), ([0, 1, 2, 3, 4], 5), ([0, 1, 2, 3, 4, 5], 6)] 5 (by decide +kernel) ?_; simp [hf,hw]))
  refine RD_call (rd := [0, 2, 3]) (fun τ hτ => C_have (at_lt ((hτ 2 (by simp)).trans rfl)) (at_lt ((hτ 3 (by simp)).trans rfl)) (at_lt ((hτ 0 (by simp)).trans rfl)) ⟨rfl, rfl⟩) ?_
  simp
  repeat (first | (refine T_seqk fun K hK => ?_) | (refine T_reg tOK rfl ?_; simp [hf,hw,hs,hm,encF,hq]) | (refine T_ret ?_; try simp) | (refine T_skip ?_; try simp) | (refine T_blockk fun K hK => ?_) | apply_assumption -exfalso -symm | (rw [afterRF_ret]; simp [hf,hw,hs,hm,encF,hq]) | (refine T_exit ?_; try simp) | (refine T_cond_t ?_ ?_; · (simp; done)) | (refine T_cond_f ?_ ?_; · (simp; done)) | (rintro _ _ (_ | _) hz9 <;> first | (simp; done) | (simp at hz9; done)) | (refine And.intro ?_ ?_) | (simp only [Post.block_ret, Post.block_exit, Post.block_normal, Post.block_pan, Post.seq_ret, Post.seq_exit, Post.seq_normal, Post.seq_pan]; try simp [hf,hw,hs,hm,encF,hq]) | (refine T_loop (TL_round ?_)) | (refine TL_round ?_) | (refine T_draw tOK tmix [([], 0), ([], 1), ([], 2), ([], 3), ([1, 2, 3], 4), ([0, 1, 2, 3, 4], 5), ([0, 1, 2, 3, 4, 5], 6)] 5 (by decide +kernel) ?_; simp [hf,hw,hs,hm,encF,hq]) | (refine T_draw tOK tmix [([], 1), ([0], 2), ([0, 1], 3), ([0, 1, 2], 4), ([], 5), ([0, 1, 2, 3, 4], 6), ([0, 1, 2, 3, 4, 5], 7), ([0, 1, 2, 3, 4, 5, 6], 8), ([0, 1, 2, 3, 4, 5, 6], 9), ([], 0), ([0, 1, 2, 3, 4, 5, 6, 7, 9], 10), ([0, 1, 2, 3, 4, 5, 6, 7, 8, 9, 10], 11)] 11 (by decide +kernel) ?_; simp [hf,hw,hs,hm,encF,hq]) | (refine T_draw tOK tmix [([], 0), ([0], 1), ([0, 1], 2), ([0, 1, 2], 3), ([], 4), ([0, 1, 2, 3, 4], 5)] 5 (by decide +kernel) ?_; simp [hf,hw,hs,hm,encF,hq]) | (refine C_bodyk tOK Try.func33 rfl (Nat.le_of_ble_eq_true rfl) fun K hK => ?_; simp) | (refine C_bodyk tOK Try.func61 rfl (Nat.le_of_ble_eq_true rfl) fun K hK => ?_; simp) | (refine C_bodyk tOK Try.func50 rfl (Nat.le_of_ble_eq_true rfl) fun K hK => ?_; simp))
  · right; simp [allStore, allBlk, allL, allB]
    exact fun a b => encFs_all _ _ (a, b)
  · simpa [frzT, frzN, burn] using h
end
end Go.Proofs.Ythllcknfidnfaaa
