/- Package disk: Rename. -/
import Derived.Test.YthllcknfidnfaaaDi
set_option linter.unusedVariables false
set_option linter.unusedSimpArgs false
set_option maxRecDepth 4000
namespace Go.Proofs.Ythllcknfidnfaaa
open Go
attribute [local simp] RF_nil RF_cons afterRF_ret nilCmp sop sGuard isCall sCallee Fr.eval Fr.get Fr.put ofConst sLoad sStore sBuiltin Fr.args bodyQ sRes oneOf sBin sInt sUn
attribute [local simp] RD_nil RD_cons noConf clear accAdd Tab.pr Tab.slot foot wid idOf refId Op.operands Call.operands sFieldAddr sNilCheck sLookup keyLit sMapSet sMapDel sLen Store.at Store.new getP setP typeAt fits evalParts sBuildSlice sFill sList sApp sAppend frzRe frz pureB pureL
attribute [local simp] dkB dkS u8s
section
variable {R : Re → Store → Prop} {d : Dk} {s t : ByteArray}
theorem C_rename_dead (hf : d.fuse = 0) (h : R (.ret (i64 42)) (dkS d)) : C tE 29 [.ptr 0 0 0 [], .str s, .str t] (dkS d) R := by
  refine C_new tOK ?_
  refine C_bodyk tOK Try.func29 rfl (Nat.le_of_ble_eq_true rfl) fun K hK => ?_; simp
  repeat (first | (refine T_seqk fun K hK => ?_) | (refine T_reg tOK rfl ?_; simp [hf]) | (refine T_ret ?_; try simp) | (refine T_skip ?_; try simp) | (refine T_blockk fun K hK => ?_) | apply_assumption -exfalso -symm | (rw [afterRF_ret]; simp [hf]) | (refine T_exit ?_; try simp) | (refine T_cond_t ?_ ?_; · (simp; done)) | (refine T_cond_f ?_ ?_; · (simp; done)) | (rintro _ _ (_ | _) hz9 <;> first | (simp; done) | (simp at hz9; done)) | (refine And.intro ?_ ?_) | (simp only [Post.block_ret, Post.block_exit, Post.block_normal, Post.block_pan, Post.seq_ret, Post.seq_exit, Post.seq_normal, Post.seq_pan]; try simp [hf]) | (refine T_loop (TL_round ?_)) | (refine TL_round ?_) | (refine C_bodyk tOK Try.func33 rfl (Nat.le_of_ble_eq_true rfl) fun K hK => ?_; simp))
  · left; simp [hf]
  · simpa [frzT, frzN, hf] using h
theorem C_rename_arg (hf : (d.fuse == 0) = false) (hw : IntKind.i64.wrap (d.fuse - 1) = d.fuse - 1) (hn : named t = false) (h : R (.ret (i64 1)) (dkS (burn d))) : C tE 29 [.ptr 0 0 0 [], .str s, .str t] (dkS d) R := by
  refine C_new tOK ?_
  refine C_bodyk tOK Try.func29 rfl (Nat.le_of_ble_eq_true rfl) fun K hK => ?_; simp
  repeat (first | (refine T_seqk fun K hK => ?_) | (refine T_reg tOK rfl ?_; simp [hf,hw,hn]) | (refine T_ret ?_; try simp) | (refine T_skip ?_; try simp) | (refine T_blockk fun K hK => ?_) | apply_assumption -exfalso -symm | (rw [afterRF_ret]; simp [hf,hw,hn]) | (refine T_exit ?_; try simp) | (refine T_cond_t ?_ ?_; · (simp; done)) | (refine T_cond_f ?_ ?_; · (simp; done)) | (rintro _ _ (_ | _) hz9 <;> first | (simp; done) | (simp at hz9; done)) | (refine And.intro ?_ ?_) | (simp only [Post.block_ret, Post.block_exit, Post.block_normal, Post.block_pan, Post.seq_ret, Post.seq_exit, Post.seq_normal, Post.seq_pan]; try simp [hf,hw,hn]) | (refine T_loop (TL_round ?_)) | (refine TL_round ?_) | (refine C_named ?_; simp [hf,hw,hn]) | (refine C_bodyk tOK Try.func33 rfl (Nat.le_of_ble_eq_true rfl) fun K hK => ?_; simp) | (refine C_bodyk tOK Try.func48 rfl (Nat.le_of_ble_eq_true rfl) fun K hK => ?_; simp))
  · right; simp [allStore, allBlk, allL, allB]
    exact fun a b => encFs_all _ _ (a, b)
  · simpa [frzT, frzN, burn] using h
theorem C_rename_none (hs : s.size ≤ maxLen) (hf : (d.fuse == 0) = false) (hw : IntKind.i64.wrap (d.fuse - 1) = d.fuse - 1) (hn : named t = true) (hg : dget s.data.toList d.files = none) (h : R (.ret (i64 3)) (dkS (burn d))) :
    C tE 29 [.ptr 0 0 0 [], .str s, .str t] (dkS d) R := by
  have hm := mget_enc s.data.toList d.files
  rw [hg] at hm
  refine C_new tOK ?_
  refine C_bodyk tOK Try.func29 rfl (Nat.le_of_ble_eq_true rfl) fun K hK => ?_; simp
  repeat (first | (refine T_seqk fun K hK => ?_) | (refine T_reg tOK rfl ?_; simp [hf,hw,hn,hs,hm]) | (refine T_ret ?_; try simp) | (refine T_skip ?_; try simp) | (refine T_blockk fun K hK => ?_) | apply_assumption -exfalso -symm | (rw [afterRF_ret]; simp [hf,hw,hn,hs,hm]) | (refine T_exit ?_; try simp) | (refine T_cond_t ?_ ?_; · (simp; done)) | (refine T_cond_f ?_ ?_; · (simp; done)) | (rintro _ _ (_ | _) hz9 <;> first | (simp; done) | (simp at hz9; done)) | (refine And.intro ?_ ?_) | (simp only [Post.block_ret, Post.block_exit, Post.block_normal, Post.block_pan, Post.seq_ret, Post.seq_exit, Post.seq_normal, Post.seq_pan]; try simp [hf,hw,hn,hs,hm]) | (refine T_loop (TL_round ?_)) | (refine TL_round ?_) | (refine T_draw tOK tmix [([], 1), ([0], 2), ([0, 1], 3), ([0, 1, 2], 4), ([], 5), ([0, 1, 2, 3, 4], 6), ([0, 1, 2, 3, 4, 5], 7), ([0, 1, 2, 3, 4, 5, 6], 8), ([0, 1, 2, 3, 4, 5, 6], 9), ([], 0), ([0, 1, 2, 3, 4, 5, 6, 7, 9], 10), ([0, 1, 2, 3, 4, 5, 6, 7, 8, 9, 10], 11)] 11 (by decide +kernel) ?_; simp [hf,hw,hn,hs,hm]) | (refine C_named ?_; simp [hf,hw,hn,hs,hm]) | (refine C_bodyk tOK Try.func33 rfl (Nat.le_of_ble_eq_true rfl) fun K hK => ?_; simp) | (refine C_bodyk tOK Try.func48 rfl (Nat.le_of_ble_eq_true rfl) fun K hK => ?_; simp) | (refine C_bodyk tOK Try.func46 rfl (Nat.le_of_ble_eq_true rfl) fun K hK => ?_; simp) | (refine C_bodyk tOK Try.func61 rfl (Nat.le_of_ble_eq_true rfl) fun K hK => ?_; simp))
  · right; simp [allStore, allBlk, allL, allB]
    exact fun a b => encFs_all _ _ (a, b)
  · simpa [frzT, frzN, burn] using h
theorem C_rename_ok (hs : s.size ≤ maxLen) (ht : t.size ≤ maxLen) (hl : (encFs (ddel s.data.toList d.files)).length < 1000000) (hf : (d.fuse == 0) = false) (hw : IntKind.i64.wrap (d.fuse - 1) = d.fuse - 1) (hn : named t = true) {f : Fl} (hg : dget s.data.toList d.files = some f)
    (h : R (.ret (i64 0)) (dkS { burn d with files := dput t.data.toList f (ddel s.data.toList d.files) })) : C tE 29 [.ptr 0 0 0 [], .str s, .str t] (dkS d) R := by
  have hm := mget_enc s.data.toList d.files
  rw [hg] at hm
  have hq := mdel_enc s.data.toList d.files
  have hp : mput (.string t.data.toList) (.agg 56 [.lit (u8l f.b), i64 f.last]) (encFs (ddel s.data.toList d.files)) = encFs (dput t.data.toList f (ddel s.data.toList d.files)) := mput_enc t.data.toList f (ddel s.data.toList d.files)
  refine C_new tOK ?_
  refine C_bodyk tOK Try.func29 rfl (Nat.le_of_ble_eq_true rfl) fun K hK => ?_; simp
  repeat (first | (refine T_seqk fun K hK => ?_) | (refine T_reg tOK rfl ?_; simp [hf,hw,hn,hs,ht,hl,hm,hq,encF]) | (refine T_ret ?_; try simp) | (refine T_skip ?_; try simp) | (refine T_blockk fun K hK => ?_) | apply_assumption -exfalso -symm | (rw [afterRF_ret]; simp [hf,hw,hn,hs,ht,hl,hm,hq,encF]) | (refine T_exit ?_; try simp) | (refine T_cond_t ?_ ?_; · (simp; done)) | (refine T_cond_f ?_ ?_; · (simp; done)) | (rintro _ _ (_ | _) hz9 <;> first | (simp; done) | (simp at hz9; done)) | (refine And.intro ?_ ?_) | (simp only [Post.block_ret, Post.block_exit, Post.block_normal, Post.block_pan, Post.seq_ret, Post.seq_exit, Post.seq_normal, Post.seq_pan]; try simp [hf,hw,hn,hs,ht,hl,hm,hq,encF]) | (refine T_loop (TL_round ?_)) | (refine TL_round ?_) | (refine T_draw tOK tmix [([], 1), ([0], 2), ([0, 1], 3), ([0, 1, 2], 4), ([], 5), ([0, 1, 2, 3, 4], 6), ([0, 1, 2, 3, 4, 5], 7), ([0, 1, 2, 3, 4, 5, 6], 8), ([0, 1, 2, 3, 4, 5, 6], 9), ([], 0), ([0, 1, 2, 3, 4, 5, 6, 7, 9], 10), ([0, 1, 2, 3, 4, 5, 6, 7, 8, 9, 10], 11)] 11 (by decide +kernel) ?_; simp [hf,hw,hn,hs,ht,hl,hm,hq,encF]) | (refine T_draw tOK tmix [([], 0), ([0], 1), ([0, 1], 2), ([0, 1, 2], 3), ([], 4), ([0, 1, 2, 3, 4], 5)] 5 (by decide +kernel) ?_; simp [hf,hw,hn,hs,ht,hl,hm,hq,encF]) | (refine T_draw tOK tmix [([], 0), ([0], 1), ([0, 1], 2), ([0, 1, 2], 3), ([], 4), ([], 5), ([0, 1, 2, 3, 4, 5], 6)] 6 (by decide +kernel) ?_; simp [hf,hw,hn,hs,ht,hl,hm,hq,encF]) | (refine C_named ?_; simp [hf,hw,hn,hs,ht,hl,hm,hq,encF]) | (refine C_bodyk tOK Try.func33 rfl (Nat.le_of_ble_eq_true rfl) fun K hK => ?_; simp) | (refine C_bodyk tOK Try.func48 rfl (Nat.le_of_ble_eq_true rfl) fun K hK => ?_; simp) | (refine C_bodyk tOK Try.func46 rfl (Nat.le_of_ble_eq_true rfl) fun K hK => ?_; simp) | (refine C_bodyk tOK Try.func61 rfl (Nat.le_of_ble_eq_true rfl) fun K hK => ?_; simp) | (refine C_bodyk tOK Try.func49 rfl (Nat.le_of_ble_eq_true rfl) fun K hK => ?_; simp))
  · right; rw [hp]; simp [allStore, allBlk, allL, allB]
    exact fun a b => encFs_all _ _ (a, b)
  · rw [hp]; simpa [frzT, frzN, burn] using h
theorem C_new_ok {σ : Store} {n : Int} (h0 : decide (n < 0) = false) (h1 : decide (1048576 < n) = false)
    (h : R (.ret (.ptr (σ.length + 1) 0 0 [])) (σ ++ [some (.mp 9 []), some (.cells 54 0 [.agg 54 [i64 n, .map σ.length, i64 (-1), i64 0]])])) : C tE 10 [i64 n] σ R := by
  refine C_bodyk tOK Try.func10 rfl (Nat.le_of_ble_eq_true rfl) fun K hK => ?_; simp
  repeat (first | (refine T_seqk fun K hK => ?_) | (refine T_reg tOK rfl ?_; simp [h0,h1,sBuild]) | (refine T_ret ?_; try simp) | (refine T_skip ?_; try simp) | (refine T_blockk fun K hK => ?_) | apply_assumption -exfalso -symm | (rw [afterRF_ret]; simp [h0,h1,sBuild]) | (refine T_exit ?_; try simp) | (refine T_cond_t ?_ ?_; · (simp; done)) | (refine T_cond_f ?_ ?_; · (simp; done)) | (rintro _ _ (_ | _) hz9 <;> first | (simp; done) | (simp at hz9; done)) | (refine And.intro ?_ ?_) | (simp only [Post.block_ret, Post.block_exit, Post.block_normal, Post.block_pan, Post.seq_ret, Post.seq_exit, Post.seq_normal, Post.seq_pan]; try simp [h0,h1,sBuild]) | (refine T_loop (TL_round ?_)) | (refine TL_round ?_))
end
end Go.Proofs.Ythllcknfidnfaaa
