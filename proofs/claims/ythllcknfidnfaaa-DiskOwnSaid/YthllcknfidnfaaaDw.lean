/- The statements' own functions: the live question. -/
import Derived.Test.YthllcknfidnfaaaDv
set_option linter.unusedVariables false
set_option linter.unusedSimpArgs false
set_option maxRecDepth 4000
namespace Go.Proofs.Ythllcknfidnfaaa
open Go
attribute [local simp] RF_nil RF_cons afterRF_ret nilCmp sop sGuard isCall sCallee Fr.eval Fr.get Fr.put ofConst sLoad sStore sBuiltin Fr.args bodyQ sRes oneOf sBin sInt sUn
attribute [local simp] RD_nil RD_cons noConf clear accAdd Tab.pr Tab.slot foot wid idOf refId Op.operands Call.operands sFieldAddr sNilCheck sLookup keyLit sMapSet sMapDel sLen Store.at Store.new getP setP typeAt fits evalParts sBuildSlice sFill sList sApp sAppend frzRe frz pureB pureL
attribute [local simp] optEval sSlice sIndexAddr

abbrev txt (l : List UInt8) : ByteArray := ⟨l.toArray⟩
def hd0 : Dk := ⟨10, [], -1, 0⟩
def hd1 : Dk := (write hd0 (txt [97]) [104, 101, 108, 108, 111]).2
def hd2 : Dk := (sync hd1 (txt [97])).2
def hd3 : Dk := (write hd2 (txt [97]) [121, 111, 117]).2
def hd4 : Dk := (write hd3 (txt [98, 46, 49, 45]) [97, 98, 99]).2
def hd5 : Dk := (write hd4 (txt [65]) []).2
def hd6 : Dk := (sync hd5 (txt [99])).2
def hd7 : Dk := setFail hd6 1
def hd8 : Dk := (sync hd7 (txt [97])).2
def hd9 : Dk := setFuse hd8 1
def hd10 : Dk := (rename hd9 (txt [97]) (txt [99])).2
def hd11 : Dk := (delete hd10 (txt [99])).2
def hd12 : Dk := crash hd11 [2]
def hd13 : Dk := (delete hd12 (txt [99])).2
instance : DecidableEq Fl := fun a b => decidable_of_iff (a.b = b.b ∧ a.last = b.last) (by cases a; cases b; simp)
instance : DecidableEq Dk := fun a b => decidable_of_iff (a.room = b.room ∧ a.files = b.files ∧ a.fuse = b.fuse ∧ a.fail = b.fail) (by cases a; cases b; simp)
theorem e1 : write hd0 (txt [97]) [104, 101, 108, 108, 111] = (0, ⟨10, [([97], ⟨[104, 101, 108, 108, 111], 0⟩)], -1, 0⟩) := by decide +kernel
theorem e2 : sync hd1 (txt [97]) = (0, ⟨10, [([97], ⟨[104, 101, 108, 108, 111], 5⟩)], -1, 0⟩) := by decide +kernel
theorem e3 : write hd2 (txt [97]) [121, 111, 117] = (0, ⟨10, [([97], ⟨[104, 101, 108, 108, 111, 121, 111, 117], 5⟩)], -1, 0⟩) := by decide +kernel
theorem e4 : (write hd3 (txt [98, 46, 49, 45]) [97, 98, 99]).1 = 5 := by decide +kernel
theorem e5 : (write hd4 (txt [65]) []).1 = 1 := by decide +kernel
theorem e6 : (sync hd5 (txt [99])).1 = 3 := by decide +kernel
theorem e8 : (sync hd7 (txt [97])).1 = 41 := by decide +kernel
theorem e10 : (rename hd9 (txt [97]) (txt [99])).1 = 0 := by decide +kernel
theorem e11 : delete hd10 (txt [99]) = (42, ⟨10, [([99], ⟨[104, 101, 108, 108, 111, 121, 111, 117], 5⟩)], 0, 0⟩) := by decide +kernel
theorem e12 : hd12 = ⟨10, [([99], ⟨[104, 101, 108, 108, 111, 121, 111], 7⟩)], -1, 0⟩ := by
  have h : hd11 = ⟨10, [([99], ⟨[104, 101, 108, 108, 111, 121, 111, 117], 5⟩)], 0, 0⟩ := by unfold hd11; rw [e11]
  unfold hd12; rw [h]
  have hn : names ⟨10, [([99], ⟨[104, 101, 108, 108, 111, 121, 111, 117], 5⟩)], 0, 0⟩ = [[99]] := by simp [names]
  unfold crash
  rw [hn]
  decide +kernel
theorem e13 : delete hd12 (txt [99]) = (0, ⟨10, [], -1, 0⟩) := by rw [e12]; decide +kernel
theorem iv0 : Inv hd0 := Inv.new (by decide) (by decide)
theorem iv1 : Inv hd1 := iv0.write
theorem iv2 : Inv hd2 := iv1.sync
theorem iv3 : Inv hd3 := iv2.write
theorem iv4 : Inv hd4 := iv3.write
theorem iv5 : Inv hd5 := iv4.write
theorem iv6 : Inv hd6 := iv5.sync
theorem iv7 : Inv hd7 := iv6.setFail (by decide)
theorem iv8 : Inv hd8 := iv7.sync
theorem iv9 : Inv hd9 := iv8.setFuse (by decide)
theorem iv10 : Inv hd10 := iv9.rename
theorem iv11 : Inv hd11 := iv10.delete
theorem iv12 : Inv hd12 := iv11.crash
theorem iv13 : Inv hd13 := iv12.delete
theorem h1 {n : List UInt8} (h : n.length < 100 := by decide) : (txt n).size ≤ maxLen := Nat.le_trans (Nat.le_of_lt h) (by decide)
/-- A disk alone, as head lays it. -/
def lay (d : Dk) (r : Store) : Store := some (dkM d) :: some (dkBj d 0) :: r
theorem lay_at (d : Dk) (r : Store) : DkAt (lay d r) 1 0 d := ⟨by decide, rfl, rfl⟩
theorem lay_put (d d' : Dk) (r : Store) : dkPut (lay d r) 1 0 d' = lay d' r := rfl
theorem lay_new (n : Int) : [some (.mp 9 []), some (.cells 54 0 [.agg 54 [i64 n, .map 0, i64 (-1), i64 0]])] = lay ⟨n, [], -1, 0⟩ [] := rfl
theorem q0a : (write hd0 (txt [97]) [104, 101, 108, 108, 111]).1 = 0 := congrArg Prod.fst e1
theorem q0b : (write hd0 (txt [97]) [104, 101, 108, 108, 111]).2 = hd1 := rfl
theorem q1a : (sync hd1 (txt [97])).1 = 0 := congrArg Prod.fst e2
theorem q1b : (sync hd1 (txt [97])).2 = hd2 := rfl
theorem q2a : (write hd2 (txt [97]) [121, 111, 117]).1 = 0 := congrArg Prod.fst e3
theorem q2b : (write hd2 (txt [97]) [121, 111, 117]).2 = hd3 := rfl
theorem q3a : (write hd3 (txt [98, 46, 49, 45]) [97, 98, 99]).1 = 5 := e4
theorem q3b : (write hd3 (txt [98, 46, 49, 45]) [97, 98, 99]).2 = hd4 := rfl
theorem q4a : (write hd4 (txt [65]) []).1 = 1 := e5
theorem q4b : (write hd4 (txt [65]) []).2 = hd5 := rfl
theorem q5a : (sync hd5 (txt [99])).1 = 3 := e6
theorem q5b : (sync hd5 (txt [99])).2 = hd6 := rfl
theorem q7a : (sync hd7 (txt [97])).1 = 41 := e8
theorem q7b : (sync hd7 (txt [97])).2 = hd8 := rfl
theorem q9a : (rename hd9 (txt [97]) (txt [99])).1 = 0 := e10
theorem q9b : (rename hd9 (txt [97]) (txt [99])).2 = hd10 := rfl
theorem q10a : (delete hd10 (txt [99])).1 = 42 := congrArg Prod.fst e11
theorem q10b : (delete hd10 (txt [99])).2 = hd11 := rfl
theorem q12 : dget (txt [99]).data.toList hd12.files = some ⟨[104, 101, 108, 108, 111, 121, 111], 7⟩ := by rw [e12]; decide +kernel
theorem q13a : (delete hd12 (txt [99])).1 = 0 := congrArg Prod.fst e13
theorem q13b : (delete hd12 (txt [99])).2 = hd13 := rfl
theorem q14 : dget (txt [99]).data.toList hd13.files = none := by unfold hd13; rw [e13]; decide +kernel
theorem qf : hd13.files = [] := by unfold hd13; rw [e13]
theorem qn : names hd13 = [] := by simp [names, qf]
theorem qu : used hd13.files = 0 := by rw [qf]; rfl
theorem VL_nils {c : Cx} : ∀ {xs : List PV} {vs : List Value}, VL tE c (xs ++ [.nils]) vs → VL tE c (xs ++ [u8s []]) vs := fun {xs vs} h => by
  obtain ⟨us, ws, rfl, h1, h2⟩ := VL.split h
  obtain ⟨v, rfl⟩ : ∃ v, ws = [v] := by
    have := h2.len
    match ws, this with
    | [v], _ => exact ⟨v, rfl⟩
  exact VL.app h1 (V.nils_lit h2)
section
variable {R : Re → Store → Prop} {σ : Store}
set_option maxHeartbeats 4000000 in
theorem C_head (h : R (.ret (.bool true)) σ) : C tE 9 [] σ R := by
  refine C_pure tOK rfl ?_
  refine C_bodyk tOK Try.func9 rfl (Nat.le_of_ble_eq_true rfl) fun K hK => ?_; simp
  repeat (first | (refine T_seqk fun K hK => ?_) | (refine T_reg tOK rfl ?_; simp) | (refine T_ret ?_; try simp) | (refine T_skip ?_; try simp) | (refine T_blockk fun K hK => ?_) | apply_assumption -exfalso -symm | (rw [afterRF_ret]; simp) | (refine T_exit ?_; try simp) | (refine T_cond_t ?_ ?_; · (simp; done)) | (refine T_cond_f ?_ ?_; · (simp; done)) | (rintro _ _ (_ | _) hz9 <;> first | (simp; done) | (simp at hz9; done)) | (refine And.intro ?_ ?_) | (simp only [Post.block_ret, Post.block_exit, Post.block_normal, Post.block_pan, Post.seq_ret, Post.seq_exit, Post.seq_normal, Post.seq_pan]; try simp) | (refine T_loop (TL_round ?_)) | (refine TL_round ?_))
  refine C_new_ok rfl rfl ?_
  repeat (first | (refine T_seqk fun K hK => ?_) | (refine T_reg tOK rfl ?_; simp) | (refine T_ret ?_; try simp) | (refine T_skip ?_; try simp) | (refine T_blockk fun K hK => ?_) | apply_assumption -exfalso -symm | (rw [afterRF_ret]; simp) | (refine T_exit ?_; try simp) | (refine T_cond_t ?_ ?_; · (simp; done)) | (refine T_cond_f ?_ ?_; · (simp; done)) | (rintro _ _ (_ | _) hz9 <;> first | (simp; done) | (simp at hz9; done)) | (refine And.intro ?_ ?_) | (simp only [Post.block_ret, Post.block_exit, Post.block_normal, Post.block_pan, Post.seq_ret, Post.seq_exit, Post.seq_normal, Post.seq_pan]; try simp) | (refine T_loop (TL_round ?_)) | (refine TL_round ?_))
  refine C_new_none rfl ?_
  repeat (first | (refine T_seqk fun K hK => ?_) | (refine T_reg tOK rfl ?_; simp) | (refine T_ret ?_; try simp) | (refine T_skip ?_; try simp) | (refine T_blockk fun K hK => ?_) | apply_assumption -exfalso -symm | (rw [afterRF_ret]; simp) | (refine T_exit ?_; try simp) | (refine T_cond_t ?_ ?_; · (simp; done)) | (refine T_cond_f ?_ ?_; · (simp; done)) | (rintro _ _ (_ | _) hz9 <;> first | (simp; done) | (simp at hz9; done)) | (refine And.intro ?_ ?_) | (simp only [Post.block_ret, Post.block_exit, Post.block_normal, Post.block_pan, Post.seq_ret, Post.seq_exit, Post.seq_normal, Post.seq_pan]; try simp) | (refine T_loop (TL_round ?_)) | (refine TL_round ?_))
  refine C_still (pre := [.ptr 1 0 0 [], .str (txt [97])]) rfl rfl rfl ?_
  refine C_write_at (i := 1) (j := 0) (d := hd0) (s := txt [97]) (b := [104, 101, 108, 108, 111]) ⟨by decide, rfl, rfl⟩ iv0 h1 ?_
  simp [q0a,q0b,dkPut]
  repeat (first | (refine T_seqk fun K hK => ?_) | (refine T_reg tOK rfl ?_; simp) | (refine T_ret ?_; try simp) | (refine T_skip ?_; try simp) | (refine T_blockk fun K hK => ?_) | apply_assumption -exfalso -symm | (rw [afterRF_ret]; simp) | (refine T_exit ?_; try simp) | (refine T_cond_t ?_ ?_; · (simp; done)) | (refine T_cond_f ?_ ?_; · (simp; done)) | (rintro _ _ (_ | _) hz9 <;> first | (simp; done) | (simp at hz9; done)) | (refine And.intro ?_ ?_) | (simp only [Post.block_ret, Post.block_exit, Post.block_normal, Post.block_pan, Post.seq_ret, Post.seq_exit, Post.seq_normal, Post.seq_pan]; try simp) | (refine T_loop (TL_round ?_)) | (refine TL_round ?_))
  refine C_sync_at (i := 1) (j := 0) (d := hd1) (s := txt [97]) ⟨by decide, rfl, rfl⟩ iv1 h1 ?_
  simp [q1a,q1b,dkPut]
  repeat (first | (refine T_seqk fun K hK => ?_) | (refine T_reg tOK rfl ?_; simp) | (refine T_ret ?_; try simp) | (refine T_skip ?_; try simp) | (refine T_blockk fun K hK => ?_) | apply_assumption -exfalso -symm | (rw [afterRF_ret]; simp) | (refine T_exit ?_; try simp) | (refine T_cond_t ?_ ?_; · (simp; done)) | (refine T_cond_f ?_ ?_; · (simp; done)) | (rintro _ _ (_ | _) hz9 <;> first | (simp; done) | (simp at hz9; done)) | (refine And.intro ?_ ?_) | (simp only [Post.block_ret, Post.block_exit, Post.block_normal, Post.block_pan, Post.seq_ret, Post.seq_exit, Post.seq_normal, Post.seq_pan]; try simp) | (refine T_loop (TL_round ?_)) | (refine TL_round ?_))
  refine C_still (pre := [.ptr 1 0 0 [], .str (txt [97])]) rfl rfl rfl ?_
  refine C_write_at (i := 1) (j := 0) (d := hd2) (s := txt [97]) (b := [121, 111, 117]) ⟨by decide, rfl, rfl⟩ iv2 h1 ?_
  simp [q2a,q2b,dkPut]
  repeat (first | (refine T_seqk fun K hK => ?_) | (refine T_reg tOK rfl ?_; simp) | (refine T_ret ?_; try simp) | (refine T_skip ?_; try simp) | (refine T_blockk fun K hK => ?_) | apply_assumption -exfalso -symm | (rw [afterRF_ret]; simp) | (refine T_exit ?_; try simp) | (refine T_cond_t ?_ ?_; · (simp; done)) | (refine T_cond_f ?_ ?_; · (simp; done)) | (rintro _ _ (_ | _) hz9 <;> first | (simp; done) | (simp at hz9; done)) | (refine And.intro ?_ ?_) | (simp only [Post.block_ret, Post.block_exit, Post.block_normal, Post.block_pan, Post.seq_ret, Post.seq_exit, Post.seq_normal, Post.seq_pan]; try simp) | (refine T_loop (TL_round ?_)) | (refine TL_round ?_))
  refine C_still (pre := [.ptr 1 0 0 [], .str (txt [98, 46, 49, 45])]) rfl rfl rfl ?_
  refine C_write_at (i := 1) (j := 0) (d := hd3) (s := txt [98, 46, 49, 45]) (b := [97, 98, 99]) ⟨by decide, rfl, rfl⟩ iv3 h1 ?_
  simp [q3a,q3b,dkPut]
  repeat (first | (refine T_seqk fun K hK => ?_) | (refine T_reg tOK rfl ?_; simp) | (refine T_ret ?_; try simp) | (refine T_skip ?_; try simp) | (refine T_blockk fun K hK => ?_) | apply_assumption -exfalso -symm | (rw [afterRF_ret]; simp) | (refine T_exit ?_; try simp) | (refine T_cond_t ?_ ?_; · (simp; done)) | (refine T_cond_f ?_ ?_; · (simp; done)) | (rintro _ _ (_ | _) hz9 <;> first | (simp; done) | (simp at hz9; done)) | (refine And.intro ?_ ?_) | (simp only [Post.block_ret, Post.block_exit, Post.block_normal, Post.block_pan, Post.seq_ret, Post.seq_exit, Post.seq_normal, Post.seq_pan]; try simp) | (refine T_loop (TL_round ?_)) | (refine TL_round ?_))
  refine C_weak (args' := [.ptr 1 0 0 [], .str (txt [65]), u8s []]) (fun c vs h => VL_nils (xs := [.ptr 1 0 0 [], .str (txt [65])]) h) ?_
  refine C_write_at (i := 1) (j := 0) (d := hd4) (s := txt [65]) (b := []) ⟨by decide, rfl, rfl⟩ iv4 h1 ?_
  simp [q4a,q4b,dkPut]
  repeat (first | (refine T_seqk fun K hK => ?_) | (refine T_reg tOK rfl ?_; simp) | (refine T_ret ?_; try simp) | (refine T_skip ?_; try simp) | (refine T_blockk fun K hK => ?_) | apply_assumption -exfalso -symm | (rw [afterRF_ret]; simp) | (refine T_exit ?_; try simp) | (refine T_cond_t ?_ ?_; · (simp; done)) | (refine T_cond_f ?_ ?_; · (simp; done)) | (rintro _ _ (_ | _) hz9 <;> first | (simp; done) | (simp at hz9; done)) | (refine And.intro ?_ ?_) | (simp only [Post.block_ret, Post.block_exit, Post.block_normal, Post.block_pan, Post.seq_ret, Post.seq_exit, Post.seq_normal, Post.seq_pan]; try simp) | (refine T_loop (TL_round ?_)) | (refine TL_round ?_))
  refine C_sync_at (i := 1) (j := 0) (d := hd5) (s := txt [99]) ⟨by decide, rfl, rfl⟩ iv5 h1 ?_
  simp [q5a,q5b,dkPut]
  repeat (first | (refine T_seqk fun K hK => ?_) | (refine T_reg tOK rfl ?_; simp) | (refine T_ret ?_; try simp) | (refine T_skip ?_; try simp) | (refine T_blockk fun K hK => ?_) | apply_assumption -exfalso -symm | (rw [afterRF_ret]; simp) | (refine T_exit ?_; try simp) | (refine T_cond_t ?_ ?_; · (simp; done)) | (refine T_cond_f ?_ ?_; · (simp; done)) | (rintro _ _ (_ | _) hz9 <;> first | (simp; done) | (simp at hz9; done)) | (refine And.intro ?_ ?_) | (simp only [Post.block_ret, Post.block_exit, Post.block_normal, Post.block_pan, Post.seq_ret, Post.seq_exit, Post.seq_normal, Post.seq_pan]; try simp) | (refine T_loop (TL_round ?_)) | (refine TL_round ?_))
  refine C_fail_at (i := 1) (j := 0) (d := hd6) (n := 1) ⟨by decide, rfl, rfl⟩ ?_
  rw [show setFail hd6 1 = hd7 from rfl]
  simp [dkPut]
  repeat (first | (refine T_seqk fun K hK => ?_) | (refine T_reg tOK rfl ?_; simp) | (refine T_ret ?_; try simp) | (refine T_skip ?_; try simp) | (refine T_blockk fun K hK => ?_) | apply_assumption -exfalso -symm | (rw [afterRF_ret]; simp) | (refine T_exit ?_; try simp) | (refine T_cond_t ?_ ?_; · (simp; done)) | (refine T_cond_f ?_ ?_; · (simp; done)) | (rintro _ _ (_ | _) hz9 <;> first | (simp; done) | (simp at hz9; done)) | (refine And.intro ?_ ?_) | (simp only [Post.block_ret, Post.block_exit, Post.block_normal, Post.block_pan, Post.seq_ret, Post.seq_exit, Post.seq_normal, Post.seq_pan]; try simp) | (refine T_loop (TL_round ?_)) | (refine TL_round ?_))
  refine C_sync_at (i := 1) (j := 0) (d := hd7) (s := txt [97]) ⟨by decide, rfl, rfl⟩ iv7 h1 ?_
  simp [q7a,q7b,dkPut]
  repeat (first | (refine T_seqk fun K hK => ?_) | (refine T_reg tOK rfl ?_; simp) | (refine T_ret ?_; try simp) | (refine T_skip ?_; try simp) | (refine T_blockk fun K hK => ?_) | apply_assumption -exfalso -symm | (rw [afterRF_ret]; simp) | (refine T_exit ?_; try simp) | (refine T_cond_t ?_ ?_; · (simp; done)) | (refine T_cond_f ?_ ?_; · (simp; done)) | (rintro _ _ (_ | _) hz9 <;> first | (simp; done) | (simp at hz9; done)) | (refine And.intro ?_ ?_) | (simp only [Post.block_ret, Post.block_exit, Post.block_normal, Post.block_pan, Post.seq_ret, Post.seq_exit, Post.seq_normal, Post.seq_pan]; try simp) | (refine T_loop (TL_round ?_)) | (refine TL_round ?_))
  refine C_fuse_at (i := 1) (j := 0) (d := hd8) (n := 1) ⟨by decide, rfl, rfl⟩ ?_
  rw [show setFuse hd8 1 = hd9 from rfl]
  simp [dkPut]
  repeat (first | (refine T_seqk fun K hK => ?_) | (refine T_reg tOK rfl ?_; simp) | (refine T_ret ?_; try simp) | (refine T_skip ?_; try simp) | (refine T_blockk fun K hK => ?_) | apply_assumption -exfalso -symm | (rw [afterRF_ret]; simp) | (refine T_exit ?_; try simp) | (refine T_cond_t ?_ ?_; · (simp; done)) | (refine T_cond_f ?_ ?_; · (simp; done)) | (rintro _ _ (_ | _) hz9 <;> first | (simp; done) | (simp at hz9; done)) | (refine And.intro ?_ ?_) | (simp only [Post.block_ret, Post.block_exit, Post.block_normal, Post.block_pan, Post.seq_ret, Post.seq_exit, Post.seq_normal, Post.seq_pan]; try simp) | (refine T_loop (TL_round ?_)) | (refine TL_round ?_))
  refine C_rename_at (i := 1) (j := 0) (d := hd9) (s := txt [97]) (t := txt [99]) ⟨by decide, rfl, rfl⟩ iv9 h1 ?_
  simp [q9a,q9b,dkPut]
  repeat (first | (refine T_seqk fun K hK => ?_) | (refine T_reg tOK rfl ?_; simp) | (refine T_ret ?_; try simp) | (refine T_skip ?_; try simp) | (refine T_blockk fun K hK => ?_) | apply_assumption -exfalso -symm | (rw [afterRF_ret]; simp) | (refine T_exit ?_; try simp) | (refine T_cond_t ?_ ?_; · (simp; done)) | (refine T_cond_f ?_ ?_; · (simp; done)) | (rintro _ _ (_ | _) hz9 <;> first | (simp; done) | (simp at hz9; done)) | (refine And.intro ?_ ?_) | (simp only [Post.block_ret, Post.block_exit, Post.block_normal, Post.block_pan, Post.seq_ret, Post.seq_exit, Post.seq_normal, Post.seq_pan]; try simp) | (refine T_loop (TL_round ?_)) | (refine TL_round ?_))
  refine C_delete_at (i := 1) (j := 0) (d := hd10) (s := txt [99]) ⟨by decide, rfl, rfl⟩ iv10 h1 ?_
  simp [q10a,q10b,dkPut]
  repeat (first | (refine T_seqk fun K hK => ?_) | (refine T_reg tOK rfl ?_; simp) | (refine T_ret ?_; try simp) | (refine T_skip ?_; try simp) | (refine T_blockk fun K hK => ?_) | apply_assumption -exfalso -symm | (rw [afterRF_ret]; simp) | (refine T_exit ?_; try simp) | (refine T_cond_t ?_ ?_; · (simp; done)) | (refine T_cond_f ?_ ?_; · (simp; done)) | (rintro _ _ (_ | _) hz9 <;> first | (simp; done) | (simp at hz9; done)) | (refine And.intro ?_ ?_) | (simp only [Post.block_ret, Post.block_exit, Post.block_normal, Post.block_pan, Post.seq_ret, Post.seq_exit, Post.seq_normal, Post.seq_pan]; try simp) | (refine T_loop (TL_round ?_)) | (refine TL_round ?_))
  refine C_still (pre := [.ptr 1 0 0 []]) rfl rfl rfl ?_
  refine C_crash_at (i := 1) (j := 0) (d := hd11) (keep := [2]) ⟨by decide, rfl, rfl⟩ iv11 (by decide) (by decide) ?_
  rw [show crash hd11 [2] = hd12 from rfl]
  simp [dkPut]
  repeat (first | (refine T_seqk fun K hK => ?_) | (refine T_reg tOK rfl ?_; simp) | (refine T_ret ?_; try simp) | (refine T_skip ?_; try simp) | (refine T_blockk fun K hK => ?_) | apply_assumption -exfalso -symm | (rw [afterRF_ret]; simp) | (refine T_exit ?_; try simp) | (refine T_cond_t ?_ ?_; · (simp; done)) | (refine T_cond_f ?_ ?_; · (simp; done)) | (rintro _ _ (_ | _) hz9 <;> first | (simp; done) | (simp at hz9; done)) | (refine And.intro ?_ ?_) | (simp only [Post.block_ret, Post.block_exit, Post.block_normal, Post.block_pan, Post.seq_ret, Post.seq_exit, Post.seq_normal, Post.seq_pan]; try simp) | (refine T_loop (TL_round ?_)) | (refine TL_round ?_))
  refine C_read_at (i := 1) (j := 0) (d := hd12) (s := txt [99]) ⟨by decide, rfl, rfl⟩ iv12 h1 ?_
  rw [q12]
  simp [dkPut]
  repeat (first | (refine T_seqk fun K hK => ?_) | (refine T_reg tOK rfl ?_; simp) | (refine T_ret ?_; try simp) | (refine T_skip ?_; try simp) | (refine T_blockk fun K hK => ?_) | apply_assumption -exfalso -symm | (rw [afterRF_ret]; simp) | (refine T_exit ?_; try simp) | (refine T_cond_t ?_ ?_; · (simp; done)) | (refine T_cond_f ?_ ?_; · (simp; done)) | (rintro _ _ (_ | _) hz9 <;> first | (simp; done) | (simp at hz9; done)) | (refine And.intro ?_ ?_) | (simp only [Post.block_ret, Post.block_exit, Post.block_normal, Post.block_pan, Post.seq_ret, Post.seq_exit, Post.seq_normal, Post.seq_pan]; try simp) | (refine T_loop (TL_round ?_)) | (refine TL_round ?_))
  refine C_delete_at (i := 1) (j := 0) (d := hd12) (s := txt [99]) ⟨by decide, rfl, rfl⟩ iv12 h1 ?_
  simp [q13a,q13b,dkPut]
  repeat (first | (refine T_seqk fun K hK => ?_) | (refine T_reg tOK rfl ?_; simp) | (refine T_ret ?_; try simp) | (refine T_skip ?_; try simp) | (refine T_blockk fun K hK => ?_) | apply_assumption -exfalso -symm | (rw [afterRF_ret]; simp) | (refine T_exit ?_; try simp) | (refine T_cond_t ?_ ?_; · (simp; done)) | (refine T_cond_f ?_ ?_; · (simp; done)) | (rintro _ _ (_ | _) hz9 <;> first | (simp; done) | (simp at hz9; done)) | (refine And.intro ?_ ?_) | (simp only [Post.block_ret, Post.block_exit, Post.block_normal, Post.block_pan, Post.seq_ret, Post.seq_exit, Post.seq_normal, Post.seq_pan]; try simp) | (refine T_loop (TL_round ?_)) | (refine TL_round ?_))
  refine C_read_at (i := 1) (j := 0) (d := hd13) (s := txt [99]) ⟨by decide, rfl, rfl⟩ iv13 h1 ?_
  rw [q14]
  simp [dkPut]
  repeat (first | (refine T_seqk fun K hK => ?_) | (refine T_reg tOK rfl ?_; simp [u8sOf,u8l]) | (refine T_ret ?_; try simp) | (refine T_skip ?_; try simp) | (refine T_blockk fun K hK => ?_) | apply_assumption -exfalso -symm | (rw [afterRF_ret]; simp [u8sOf,u8l]) | (refine T_exit ?_; try simp) | (refine T_cond_t ?_ ?_; · (simp; done)) | (refine T_cond_f ?_ ?_; · (simp; done)) | (rintro _ _ (_ | _) hz9 <;> first | (simp; done) | (simp at hz9; done)) | (refine And.intro ?_ ?_) | (simp only [Post.block_ret, Post.block_exit, Post.block_normal, Post.block_pan, Post.seq_ret, Post.seq_exit, Post.seq_normal, Post.seq_pan]; try simp [u8sOf,u8l]) | (refine T_loop (TL_round ?_)) | (refine TL_round ?_))
  refine T_keep [1, 2, 3, 4, 5, 6, 7, 8, 9, 10, 11, 12, 13, 15] ?_
  simp [Fr.keep]
  refine T_reg tOK rfl ?_
  simp (config := { maxSteps := 3000000 }) [u8sOf,u8l]
  refine C_list_at (i := 1) (j := 0) (d := hd13) ⟨by decide, rfl, rfl⟩ iv13 ?_
  rw [show names hd13 = [] from qn]
  simp [strs]
  repeat (first | (refine T_seqk fun K hK => ?_) | (refine T_reg tOK rfl ?_; simp [u8sOf]) | (refine T_ret ?_; try simp) | (refine T_skip ?_; try simp) | (refine T_blockk fun K hK => ?_) | apply_assumption -exfalso -symm | (rw [afterRF_ret]; simp [u8sOf]) | (refine T_exit ?_; try simp) | (refine T_cond_t ?_ ?_; · (simp; done)) | (refine T_cond_f ?_ ?_; · (simp; done)) | (rintro _ _ (_ | _) hz9 <;> first | (simp; done) | (simp at hz9; done)) | (refine And.intro ?_ ?_) | (simp only [Post.block_ret, Post.block_exit, Post.block_normal, Post.block_pan, Post.seq_ret, Post.seq_exit, Post.seq_normal, Post.seq_pan]; try simp [u8sOf]) | (refine T_loop (TL_round ?_)) | (refine TL_round ?_))
  refine C_used_at (i := 1) (j := 0) (d := hd13) ⟨by decide, rfl, rfl⟩ iv13.usedlt ?_
  rw [show used hd13.files = 0 from qu]
  simp
  repeat (first | (refine T_seqk fun K hK => ?_) | (refine T_reg tOK rfl ?_; simp) | (refine T_ret ?_; try simp) | (refine T_skip ?_; try simp) | (refine T_blockk fun K hK => ?_) | apply_assumption -exfalso -symm | (rw [afterRF_ret]; simp) | (refine T_exit ?_; try simp) | (refine T_cond_t ?_ ?_; · (simp; done)) | (refine T_cond_f ?_ ?_; · (simp; done)) | (rintro _ _ (_ | _) hz9 <;> first | (simp; done) | (simp at hz9; done)) | (refine And.intro ?_ ?_) | (simp only [Post.block_ret, Post.block_exit, Post.block_normal, Post.block_pan, Post.seq_ret, Post.seq_exit, Post.seq_normal, Post.seq_pan]; try simp) | (refine T_loop (TL_round ?_)) | (refine TL_round ?_))
end
end Go.Proofs.Ythllcknfidnfaaa
