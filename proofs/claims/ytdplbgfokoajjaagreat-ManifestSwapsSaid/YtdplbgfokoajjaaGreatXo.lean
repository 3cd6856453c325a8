/- Manifests' live question. -/
import Derived.Test.YtdplbgfokoajjaaGreatXn
set_option linter.unusedVariables false
set_option linter.unusedSimpArgs false
set_option maxRecDepth 20000
namespace Go.Proofs.YtdplbgfokoajjaaGreat
open Go
attribute [local simp] RF_nil RF_cons afterRF_ret nilCmp sop sGuard isCall sCallee Fr.eval Fr.get Fr.put ofConst sLoad sStore sBuiltin Fr.args bodyQ sRes oneOf sBin sInt sUn
attribute [local simp] RD_nil RD_cons noConf clear accAdd Tab.pr Tab.slot foot wid idOf refId Op.operands Call.operands sFieldAddr sNilCheck sLookup keyLit sMapSet sMapDel sLen Store.at Store.new getP setP typeAt fits evalParts sBuildSlice sFill sList sApp sAppend frzRe frz pureB pureL
attribute [local simp] optEval sSlice sIndexAddr xop sClear
def hmB : List UInt8 := manPut [0, 258]
def hm0 : Dk := ⟨100, [], -1, 0⟩
def hm1 : Dk := (manSwap hm0 [3, 5]).2
def hm2 : Dk := setFail hm1 1
def hm3 : Dk := (manSwap hm2 [9]).2
theorem mB1 : hmB.length = 13 := by decide +kernel
theorem mB2 : hmB.take 9 = [2, 0, 0, 0, 0, 0, 0, 1, 2] := by decide +kernel
theorem mB3 : manGet hmB = ([0, 258], 0) := by decide +kernel
theorem mB4 : manGet (hmB.take 6) = ([], 12) := by decide +kernel
theorem mB5 : manPut [] = [] := by decide +kernel
theorem ml0 : manLoad hm0 = ([], 3) := by decide +kernel
theorem ms0 : manSwap hm0 [5, 3] = (1, hm0) := by decide +kernel
theorem ms1 : (manSwap hm0 [3, 5]).1 = 0 := by decide +kernel
theorem ms2 : (manSwap hm2 [9]).1 = 41 := by decide +kernel
theorem ml3 : manLoad hm3 = ([3, 5], 0) := by decide +kernel
theorem mf3 : hm3.files.map (·.1) = [filN.data.toList] := by decide +kernel
theorem mn3 : names hm3 = [filN.data.toList] := by
 unfold names
 rw [mf3]; simp
theorem iw0 : Inv hm0 := Inv.new (by decide) (by decide)
theorem iw1 : Inv hm1 := iw0.swap
theorem iw2 : Inv hm2 := iw1.setFail (by decide)
theorem iw3 : Inv hm3 := iw2.swap
section
variable {R : Re → Store → Prop} {σ : Store}
theorem u8sOf_u8l (l : List UInt8) : u8sOf (u8l l) = some l := u8sOf_map l
set_option maxHeartbeats 8000000 in
theorem C_mhead_aux {B : List UInt8} {d0 d1 d2 d3 : Dk} (hd0 : d0 = ⟨100, [], -1, 0⟩) (mB : manPut [0, 258] = B) (mB1 : B.length = 13) (mB2 : B.take 9 = [2, 0, 0, 0, 0, 0, 0, 1, 2]) (mB3 : manGet B = ([0, 258], 0)) (mB4 : manGet (B.take 6) = ([], 12))
  (ml0 : manLoad d0 = ([], 3)) (ms0 : manSwap d0 [5, 3] = (1, d0)) (ms1 : manSwap d0 [3, 5] = (0, d1)) (md2 : setFail d1 1 = d2) (ms2 : manSwap d2 [9] = (41, d3)) (ml3 : manLoad d3 = ([3, 5], 0)) (mn3 : names d3 = [filN.data.toList])
  (iw0 : Inv d0) (iw1 : Inv d1) (iw2 : Inv d2) (iw3 : Inv d3) (h : R (.ret (.bool true)) σ) : C tE 4 [] σ R := by
 have w6 : IntKind.i64.wrap 6 = 6 := by decide
 refine C_pure tOK rfl ?_
 refine C_bodyk tOK Tryz.func4 rfl (Nat.le_of_ble_eq_true rfl) fun K hK => ?_; simp
 repeat (first | (refine T_seqk fun K hK => ?_) | (refine T_reg tOK rfl ?_; simp) | (refine T_ret ?_; try simp) | (refine T_skip ?_; try simp) | (refine T_blockk fun K hK => ?_) | (with_reducible apply_assumption -exfalso -symm) | (rw [afterRF_ret]; simp) | (refine T_exit ?_; try simp) | (refine T_cond_t ?_ ?_; · (simp; done)) | (refine T_cond_f ?_ ?_; · (simp; done)) | (rintro _ _ (_ | _) hz9 <;> first | (simp; done) | (simp at hz9; done)) | (refine And.intro ?_ ?_) | (simp only [Post.block_ret, Post.block_exit, Post.block_normal, Post.block_pan, Post.seq_ret, Post.seq_exit, Post.seq_normal, Post.seq_pan]; try simp) | (refine T_loop (TL_round ?_)) | (refine TL_round ?_))
 refine C_new_ok rfl rfl ?_
 repeat (first | (refine T_seqk fun K hK => ?_) | (refine T_reg tOK rfl ?_; simp) | (refine T_ret ?_; try simp) | (refine T_skip ?_; try simp) | (refine T_blockk fun K hK => ?_) | (with_reducible apply_assumption -exfalso -symm) | (rw [afterRF_ret]; simp) | (refine T_exit ?_; try simp) | (refine T_cond_t ?_ ?_; · (simp; done)) | (refine T_cond_f ?_ ?_; · (simp; done)) | (rintro _ _ (_ | _) hz9 <;> first | (simp; done) | (simp at hz9; done)) | (refine And.intro ?_ ?_) | (simp only [Post.block_ret, Post.block_exit, Post.block_normal, Post.block_pan, Post.seq_ret, Post.seq_exit, Post.seq_normal, Post.seq_pan]; try simp) | (refine T_loop (TL_round ?_)) | (refine TL_round ?_))
 rw [show [some (Blk.mp 9 []), some (Blk.cells 54 0 [PV.agg 54 [i64 100, PV.map 0, i64 (-1), i64 0]]), some (Blk.cells 2 0 [PV.int IntKind.i64 0, PV.int IntKind.i64 258])] = [some (dkM d0), some (dkBj d0 0), some (Blk.cells 2 0 (is [0, 258]))] by rw [hd0]; rfl]
 refine C_still (pre := []) rfl rfl rfl ?_
 refine C_put (l := [0, 258]) (by decide) ?_
 rw [mB]
 repeat (first | (refine T_seqk fun K hK => ?_) | (refine T_reg tOK rfl ?_; simp) | (refine T_ret ?_; try simp) | (refine T_skip ?_; try simp) | (refine T_blockk fun K hK => ?_) | (with_reducible apply_assumption -exfalso -symm) | (rw [afterRF_ret]; simp) | (refine T_exit ?_; try simp) | (refine T_cond_t ?_ ?_; · (simp; done)) | (refine T_cond_f ?_ ?_; · (simp; done)) | (rintro _ _ (_ | _) hz9 <;> first | (simp; done) | (simp at hz9; done)) | (refine And.intro ?_ ?_) | (simp only [Post.block_ret, Post.block_exit, Post.block_normal, Post.block_pan, Post.seq_ret, Post.seq_exit, Post.seq_normal, Post.seq_pan]; try simp) | (refine T_loop (TL_round ?_)) | (refine TL_round ?_))
 refine C_get (b := B) (by rw [mB1]; decide) ?_
 rw [mB3]
 have hl : (u8l B).length = 13 := by rw [u8l_len, mB1]
 have ht6 : (u8l B).take 6 = u8l (B.take 6) := by simp [u8l, List.map_take]
 have ht9 : (u8l B).take 9 = u8l [2, 0, 0, 0, 0, 0, 0, 1, 2] := by rw [← mB2]; simp only [u8l, List.map_take]
 repeat (first | (refine T_seqk fun K hK => ?_) | (refine T_reg tOK rfl ?_; simp [hl,w6,ht6]) | (refine T_ret ?_; try simp) | (refine T_skip ?_; try simp) | (refine T_blockk fun K hK => ?_) | (with_reducible apply_assumption -exfalso -symm) | (rw [afterRF_ret]; simp [hl,w6,ht6]) | (refine T_exit ?_; try simp) | (refine T_cond_t ?_ ?_; · (simp; done)) | (refine T_cond_f ?_ ?_; · (simp; done)) | (rintro _ _ (_ | _) hz9 <;> first | (simp; done) | (simp at hz9; done)) | (refine And.intro ?_ ?_) | (simp only [Post.block_ret, Post.block_exit, Post.block_normal, Post.block_pan, Post.seq_ret, Post.seq_exit, Post.seq_normal, Post.seq_pan]; try simp [hl,w6,ht6]) | (refine T_loop (TL_round ?_)) | (refine TL_round ?_))
 refine C_get (b := B.take 6) (by simp [mB1]) ?_
 rw [mB4]
 repeat (first | (refine T_seqk fun K hK => ?_) | (refine T_reg tOK rfl ?_; simp) | (refine T_ret ?_; try simp) | (refine T_skip ?_; try simp) | (refine T_blockk fun K hK => ?_) | (with_reducible apply_assumption -exfalso -symm) | (rw [afterRF_ret]; simp) | (refine T_exit ?_; try simp) | (refine T_cond_t ?_ ?_; · (simp; done)) | (refine T_cond_f ?_ ?_; · (simp; done)) | (rintro _ _ (_ | _) hz9 <;> first | (simp; done) | (simp at hz9; done)) | (refine And.intro ?_ ?_) | (simp only [Post.block_ret, Post.block_exit, Post.block_normal, Post.block_pan, Post.seq_ret, Post.seq_exit, Post.seq_normal, Post.seq_pan]; try simp) | (refine T_loop (TL_round ?_)) | (refine TL_round ?_))
 refine C_load_at (i := 1) (j := 0) (d := d0) ⟨by decide, rfl, rfl⟩ iw0 ?_
 rw [ml0]
 repeat (first | (refine T_seqk fun K hK => ?_) | (refine T_reg tOK rfl ?_; simp) | (refine T_ret ?_; try simp) | (refine T_skip ?_; try simp) | (refine T_blockk fun K hK => ?_) | (with_reducible apply_assumption -exfalso -symm) | (rw [afterRF_ret]; simp) | (refine T_exit ?_; try simp) | (refine T_cond_t ?_ ?_; · (simp; done)) | (refine T_cond_f ?_ ?_; · (simp; done)) | (rintro _ _ (_ | _) hz9 <;> first | (simp; done) | (simp at hz9; done)) | (refine And.intro ?_ ?_) | (simp only [Post.block_ret, Post.block_exit, Post.block_normal, Post.block_pan, Post.seq_ret, Post.seq_exit, Post.seq_normal, Post.seq_pan]; try simp) | (refine T_loop (TL_round ?_)) | (refine TL_round ?_))
 refine C_still (pre := [.ptr 1 0 0 []]) rfl rfl rfl ?_
 refine C_swap_at (i := 1) (j := 0) (d := d0) (l := [5, 3]) ⟨by decide, rfl, rfl⟩ iw0 (by decide) ?_
 rw [ms0]
 simp [dkPut]
 repeat (first | (refine T_seqk fun K hK => ?_) | (refine T_reg tOK rfl ?_; simp) | (refine T_ret ?_; try simp) | (refine T_skip ?_; try simp) | (refine T_blockk fun K hK => ?_) | (with_reducible apply_assumption -exfalso -symm) | (rw [afterRF_ret]; simp) | (refine T_exit ?_; try simp) | (refine T_cond_t ?_ ?_; · (simp; done)) | (refine T_cond_f ?_ ?_; · (simp; done)) | (rintro _ _ (_ | _) hz9 <;> first | (simp; done) | (simp at hz9; done)) | (refine And.intro ?_ ?_) | (simp only [Post.block_ret, Post.block_exit, Post.block_normal, Post.block_pan, Post.seq_ret, Post.seq_exit, Post.seq_normal, Post.seq_pan]; try simp) | (refine T_loop (TL_round ?_)) | (refine TL_round ?_))
 refine C_still (pre := [.ptr 1 0 0 []]) rfl rfl rfl ?_
 refine C_swap_at (i := 1) (j := 0) (d := d0) (l := [3, 5]) ⟨by decide, rfl, rfl⟩ iw0 (by decide) ?_
 rw [ms1]
 simp [dkPut]
 repeat (first | (refine T_seqk fun K hK => ?_) | (refine T_reg tOK rfl ?_; simp) | (refine T_ret ?_; try simp) | (refine T_skip ?_; try simp) | (refine T_blockk fun K hK => ?_) | (with_reducible apply_assumption -exfalso -symm) | (rw [afterRF_ret]; simp) | (refine T_exit ?_; try simp) | (refine T_cond_t ?_ ?_; · (simp; done)) | (refine T_cond_f ?_ ?_; · (simp; done)) | (rintro _ _ (_ | _) hz9 <;> first | (simp; done) | (simp at hz9; done)) | (refine And.intro ?_ ?_) | (simp only [Post.block_ret, Post.block_exit, Post.block_normal, Post.block_pan, Post.seq_ret, Post.seq_exit, Post.seq_normal, Post.seq_pan]; try simp) | (refine T_loop (TL_round ?_)) | (refine TL_round ?_))
 refine C_fail_at (i := 1) (j := 0) (d := d1) (n := 1) ⟨by decide, rfl, rfl⟩ ?_
 rw [md2]
 simp [dkPut]
 repeat (first | (refine T_seqk fun K hK => ?_) | (refine T_reg tOK rfl ?_; simp) | (refine T_ret ?_; try simp) | (refine T_skip ?_; try simp) | (refine T_blockk fun K hK => ?_) | (with_reducible apply_assumption -exfalso -symm) | (rw [afterRF_ret]; simp) | (refine T_exit ?_; try simp) | (refine T_cond_t ?_ ?_; · (simp; done)) | (refine T_cond_f ?_ ?_; · (simp; done)) | (rintro _ _ (_ | _) hz9 <;> first | (simp; done) | (simp at hz9; done)) | (refine And.intro ?_ ?_) | (simp only [Post.block_ret, Post.block_exit, Post.block_normal, Post.block_pan, Post.seq_ret, Post.seq_exit, Post.seq_normal, Post.seq_pan]; try simp) | (refine T_loop (TL_round ?_)) | (refine TL_round ?_))
 refine C_still (pre := [.ptr 1 0 0 []]) rfl rfl rfl ?_
 refine C_swap_at (i := 1) (j := 0) (d := d2) (l := [9]) ⟨by decide, rfl, rfl⟩ iw2 (by decide) ?_
 rw [ms2]
 simp [dkPut]
 repeat (first | (refine T_seqk fun K hK => ?_) | (refine T_reg tOK rfl ?_; simp) | (refine T_ret ?_; try simp) | (refine T_skip ?_; try simp) | (refine T_blockk fun K hK => ?_) | (with_reducible apply_assumption -exfalso -symm) | (rw [afterRF_ret]; simp) | (refine T_exit ?_; try simp) | (refine T_cond_t ?_ ?_; · (simp; done)) | (refine T_cond_f ?_ ?_; · (simp; done)) | (rintro _ _ (_ | _) hz9 <;> first | (simp; done) | (simp at hz9; done)) | (refine And.intro ?_ ?_) | (simp only [Post.block_ret, Post.block_exit, Post.block_normal, Post.block_pan, Post.seq_ret, Post.seq_exit, Post.seq_normal, Post.seq_pan]; try simp) | (refine T_loop (TL_round ?_)) | (refine TL_round ?_))
 refine C_load_at (i := 1) (j := 0) (d := d3) ⟨by decide, rfl, rfl⟩ iw3 ?_
 rw [ml3]
 repeat (first | (rw [afterRF_ret]; simp ) | with_reducible apply_assumption -exfalso -symm)
 refine T_seqk fun K hK => ?_
 refine T_keep [1, 2, 3, 4, 6, 8, 9, 10, 11, 12, 13] ?_
 simp [Fr.keep]
 refine T_regk tOK rfl fun O9 hO9 => ?_
 have g9_3 : (O9[3]?).bind (·.dst) = some 57 := by rw [hO9]; rfl
 have g9_9 : (O9[9]?).bind (·.dst) = some 63 := by rw [hO9]; rfl
 have g9_14 : (O9[14]?).bind (·.dst) = some 68 := by rw [hO9]; rfl
 have g9_18 : (O9[18]?).bind (·.dst) = some 72 := by rw [hO9]; rfl
 have g9_22 : (O9[22]?).bind (·.dst) = some 76 := by rw [hO9]; rfl
 have g9_26 : (O9[26]?).bind (·.dst) = some 80 := by rw [hO9]; rfl
 have g9_30 : (O9[30]?).bind (·.dst) = some 84 := by rw [hO9]; rfl
 have g9_34 : (O9[34]?).bind (·.dst) = some 88 := by rw [hO9]; rfl
 have g9_38 : (O9[38]?).bind (·.dst) = some 92 := by rw [hO9]; rfl
 have g9_43 : (O9[43]?).bind (·.dst) = some 97 := by rw [hO9]; rfl
 have g9_47 : (O9[47]?).bind (·.dst) = some 101 := by rw [hO9]; rfl
 have g9_53 : (O9[53]?).bind (·.dst) = some 107 := by rw [hO9]; rfl
 clear hO9
 simp [-RF_cons]
 try (rw [afterRF_ret]; simp [-RF_cons, g9_3, g9_9, g9_14, g9_18, g9_22, g9_26, g9_30, g9_34, g9_38, g9_43, g9_47, g9_53, hl,ht9,u8sOf_u8l])
 repeat (rw [RF_cons]; simp [-RF_cons, g9_3, g9_9, g9_14, g9_18, g9_22, g9_26, g9_30, g9_34, g9_38, g9_43, g9_47, g9_53, hl,ht9,u8sOf_u8l])
 refine C_lend tOK (args' := [.lit (is [0, 258]), .lit (is [0, 258])]) rfl (C_samei (by decide) (by decide) ⟨rfl, ?_⟩)
 rw [show (([0, 258] : List Int) == [0, 258]) = true by decide]
 try (rw [afterRF_ret]; simp [-RF_cons, g9_3, g9_9, g9_14, g9_18, g9_22, g9_26, g9_30, g9_34, g9_38, g9_43, g9_47, g9_53, ])
 repeat (rw [RF_cons]; simp [-RF_cons, g9_3, g9_9, g9_14, g9_18, g9_22, g9_26, g9_30, g9_34, g9_38, g9_43, g9_47, g9_53, ])
 refine C_lend tOK (args' := [.lit (is [3, 5]), .lit (is [3, 5])]) rfl (C_samei (by decide) (by decide) ⟨rfl, ?_⟩)
 rw [show (([3, 5] : List Int) == [3, 5]) = true by decide]
 try (rw [afterRF_ret]; simp [-RF_cons, g9_3, g9_9, g9_14, g9_18, g9_22, g9_26, g9_30, g9_34, g9_38, g9_43, g9_47, g9_53, ])
 repeat (rw [RF_cons]; simp [-RF_cons, g9_3, g9_9, g9_14, g9_18, g9_22, g9_26, g9_30, g9_34, g9_38, g9_43, g9_47, g9_53, ])
 refine C_list_at (i := 1) (j := 0) (d := d3) ⟨by decide, rfl, rfl⟩ iw3 ?_
 rw [mn3]
 try (rw [afterRF_ret]; simp [-RF_cons, g9_3, g9_9, g9_14, g9_18, g9_22, g9_26, g9_30, g9_34, g9_38, g9_43, g9_47, g9_53, ])
 repeat (rw [RF_cons]; simp [-RF_cons, g9_3, g9_9, g9_14, g9_18, g9_22, g9_26, g9_30, g9_34, g9_38, g9_43, g9_47, g9_53, ])
 refine C_lend tOK (args' := [.lit (strs [filN.data.toList]), .lit (strs [filN.data.toList])]) rfl (C_sames (by decide) (by decide) ⟨rfl, ?_⟩)
 rw [show (([filN.data.toList] : List (List UInt8)) == [filN.data.toList]) = true by decide]
 try (rw [afterRF_ret]; simp [-RF_cons, g9_3, g9_9, g9_14, g9_18, g9_22, g9_26, g9_30, g9_34, g9_38, g9_43, g9_47, g9_53, ])
 repeat (rw [RF_cons]; simp [-RF_cons, g9_3, g9_9, g9_14, g9_18, g9_22, g9_26, g9_30, g9_34, g9_38, g9_43, g9_47, g9_53, ])
 refine C_weak (args' := [.lit (is [])]) (fun c vs h => VL_nils (xs := []) h) (C_put (l := []) (by decide) ?_)
 rw [mB5]
 have hn : (u8l []).length = 0 := rfl
 try (rw [afterRF_ret]; simp [-RF_cons, g9_3, g9_9, g9_14, g9_18, g9_22, g9_26, g9_30, g9_34, g9_38, g9_43, g9_47, g9_53, hn])
 repeat (rw [RF_cons]; simp [-RF_cons, g9_3, g9_9, g9_14, g9_18, g9_22, g9_26, g9_30, g9_34, g9_38, g9_43, g9_47, g9_53, hn])
 refine hK _ _ ?_
 repeat (first | (refine T_seqk fun K hK => ?_) | (refine T_reg tOK rfl ?_; simp) | (refine T_ret ?_; try simp) | (refine T_skip ?_; try simp) | (refine T_blockk fun K hK => ?_) | (with_reducible apply_assumption -exfalso -symm) | (rw [afterRF_ret]; simp) | (refine T_exit ?_; try simp) | (refine T_cond_t ?_ ?_; · (simp; done)) | (refine T_cond_f ?_ ?_; · (simp; done)) | (rintro _ _ (_ | _) hz9 <;> first | (simp; done) | (simp at hz9; done)) | (refine And.intro ?_ ?_) | (simp only [Post.block_ret, Post.block_exit, Post.block_normal, Post.block_pan, Post.seq_ret, Post.seq_exit, Post.seq_normal, Post.seq_pan]; try simp) | (refine T_loop (TL_round ?_)) | (refine TL_round ?_))
theorem C_mhead (h : R (.ret (.bool true)) σ) : C tE 4 [] σ R :=
 C_mhead_aux (B := hmB) (d0 := hm0) (d1 := hm1) (d2 := hm2) (d3 := hm3) rfl rfl mB1 mB2 mB3 mB4 ml0 ms0 (Prod.ext ms1 rfl) rfl (Prod.ext ms2 rfl) ml3 mn3 iw0 iw1 iw2 iw3 h
end
end Go.Proofs.YtdplbgfokoajjaaGreat
