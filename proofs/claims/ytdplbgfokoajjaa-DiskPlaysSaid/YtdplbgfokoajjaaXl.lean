/- Package manifest: Load and Swap. -/
import Derived.Test.YtdplbgfokoajjaaXk
import Derived.Test.YtdplbgfokoajjaaXh
section
set_option linter.unusedVariables false
set_option linter.unusedSimpArgs false
set_option maxRecDepth 20000
namespace Go.Proofs.Ytdplbgfokoajjaa
open Go
attribute [local simp] RF_nil RF_cons afterRF_ret nilCmp sop sGuard isCall sCallee Fr.eval Fr.get Fr.put ofConst sLoad sStore sBuiltin Fr.args bodyQ sRes oneOf sBin sInt sUn
attribute [local simp] RD_nil RD_cons noConf clear accAdd Tab.pr Tab.slot foot wid idOf refId Op.operands Call.operands sFieldAddr sNilCheck sLookup keyLit sMapSet sMapDel sLen Store.at Store.new getP setP typeAt fits evalParts sBuildSlice sFill sList sApp sAppend frzRe frz pureB pureL
attribute [local simp] optEval sSlice sIndexAddr xop sClear dkB dkS

abbrev filN : ByteArray := ⟨#[109, 97, 110, 105, 102, 101, 115, 116]⟩
abbrev tmpN : ByteArray := ⟨#[109, 97, 110, 105, 102, 101, 115, 116, 46, 116, 109, 112]⟩
def manLoad (d : Dk) : List Int × Int := match dget filN.data.toList d.files with
  | none => ([], 3)
  | some f => manGet f.b
/-- What is done behind a Swap that came to nothing. -/
def manUndo (e : Int) (d : Dk) : Int × Dk := if e == 42 then (e, d) else (e, (delete d tmpN).2)
def manTurn (d : Dk) (l : List Int) : Int × Dk :=
  let w := write d tmpN (manPut l)
  if w.1 == 0 then
    let s := sync w.2 tmpN
    if s.1 == 0 then rename s.2 tmpN filN else manUndo s.1 s.2
  else manUndo w.1 w.2
def manSwap (d : Dk) (l : List Int) : Int × Dk :=
  if okL l then
    if (dget tmpN.data.toList d.files).isSome then
      let e := delete d tmpN
      if e.1 == 0 then manTurn e.2 l else e
    else manTurn d l
  else (1, d)

section
variable {R : Re → Store → Prop} {σ : Store} {d : Dk} {i j : Nat} {l : List Int}
theorem C_load_at (h0 : DkAt σ i j d) (hI : Inv d) (h : R (.ret (.tup [.lit (is (manLoad d).1), i64 (manLoad d).2])) σ) : C tE 28 [.ptr i 0 0 []] σ R := by
  unfold manLoad at h
  have hs : filN.size ≤ maxLen := by decide
  cases hg : dget filN.data.toList d.files with
  | none =>
    simp only [hg, is, List.map_nil] at h
    refine C_new tOK ?_
    refine C_bodyk tOK Try.func28 rfl (Nat.le_of_ble_eq_true rfl) fun K hK => ?_; simp
    repeat (first | (refine T_seqk fun K hK => ?_) | (refine T_reg tOK rfl ?_; simp) | (refine T_ret ?_; try simp) | (refine T_skip ?_; try simp) | (refine T_blockk fun K hK => ?_) | (with_reducible apply_assumption -exfalso -symm) | (rw [afterRF_ret]; simp) | (refine T_exit ?_; try simp) | (refine T_cond_t ?_ ?_; · (simp; done)) | (refine T_cond_f ?_ ?_; · (simp; done)) | (rintro _ _ (_ | _) hz9 <;> first | (simp; done) | (simp at hz9; done)) | (refine And.intro ?_ ?_) | (simp only [Post.block_ret, Post.block_exit, Post.block_normal, Post.block_pan, Post.seq_ret, Post.seq_exit, Post.seq_normal, Post.seq_pan]; try simp))
    refine C_read_at (j := j) h0 hI hs ?_
    simp [hg]
    repeat (first | (refine T_seqk fun K hK => ?_) | (refine T_reg tOK rfl ?_; simp) | (refine T_ret ?_; try simp) | (refine T_skip ?_; try simp) | (refine T_blockk fun K hK => ?_) | (with_reducible apply_assumption -exfalso -symm) | (rw [afterRF_ret]; simp) | (refine T_exit ?_; try simp) | (refine T_cond_t ?_ ?_; · (simp; done)) | (refine T_cond_f ?_ ?_; · (simp; done)) | (rintro _ _ (_ | _) hz9 <;> first | (simp; done) | (simp at hz9; done)) | (refine And.intro ?_ ?_) | (simp only [Post.block_ret, Post.block_exit, Post.block_normal, Post.block_pan, Post.seq_ret, Post.seq_exit, Post.seq_normal, Post.seq_pan]; try simp))
    · exact .inl (by simp)
    · simpa [frzT, frzN] using h
  | some f =>
    simp only [hg] at h
    have hF := hI.flOK hg
    refine C_new tOK ?_
    refine C_bodyk tOK Try.func28 rfl (Nat.le_of_ble_eq_true rfl) fun K hK => ?_; simp
    repeat (first | (refine T_seqk fun K hK => ?_) | (refine T_reg tOK rfl ?_; simp) | (refine T_ret ?_; try simp) | (refine T_skip ?_; try simp) | (refine T_blockk fun K hK => ?_) | (with_reducible apply_assumption -exfalso -symm) | (rw [afterRF_ret]; simp) | (refine T_exit ?_; try simp) | (refine T_cond_t ?_ ?_; · (simp; done)) | (refine T_cond_f ?_ ?_; · (simp; done)) | (rintro _ _ (_ | _) hz9 <;> first | (simp; done) | (simp at hz9; done)) | (refine And.intro ?_ ?_) | (simp only [Post.block_ret, Post.block_exit, Post.block_normal, Post.block_pan, Post.seq_ret, Post.seq_exit, Post.seq_normal, Post.seq_pan]; try simp))
    refine C_read_at (j := j) h0 hI hs ?_
    simp [hg]
    repeat (first | (refine T_seqk fun K hK => ?_) | (refine T_reg tOK rfl ?_; simp) | (refine T_ret ?_; try simp) | (refine T_skip ?_; try simp) | (refine T_blockk fun K hK => ?_) | (with_reducible apply_assumption -exfalso -symm) | (rw [afterRF_ret]; simp) | (refine T_exit ?_; try simp) | (refine T_cond_t ?_ ?_; · (simp; done)) | (refine T_cond_f ?_ ?_; · (simp; done)) | (rintro _ _ (_ | _) hz9 <;> first | (simp; done) | (simp at hz9; done)) | (refine And.intro ?_ ?_) | (simp only [Post.block_ret, Post.block_exit, Post.block_normal, Post.block_pan, Post.seq_ret, Post.seq_exit, Post.seq_normal, Post.seq_pan]; try simp))
    refine C_get (b := f.b) (by have := hF.sz; omega) ?_
    repeat (first | (refine T_seqk fun K hK => ?_) | (refine T_reg tOK rfl ?_; simp) | (refine T_ret ?_; try simp) | (refine T_skip ?_; try simp) | (refine T_blockk fun K hK => ?_) | (with_reducible apply_assumption -exfalso -symm) | (rw [afterRF_ret]; simp) | (refine T_exit ?_; try simp) | (refine T_cond_t ?_ ?_; · (simp; done)) | (refine T_cond_f ?_ ?_; · (simp; done)) | (rintro _ _ (_ | _) hz9 <;> first | (simp; done) | (simp at hz9; done)) | (refine And.intro ?_ ?_) | (simp only [Post.block_ret, Post.block_exit, Post.block_normal, Post.block_pan, Post.seq_ret, Post.seq_exit, Post.seq_normal, Post.seq_pan]; try simp))
    · exact .inl (by simp)
    · simpa [frzT, frzN] using h
set_option maxHeartbeats 2000000 in
theorem C_swap (hI : Inv d) (hl : l.length < 1000000000) (h : R (.ret (i64 (manSwap d l).1)) (dkS (manSwap d l).2)) : C tE 29 [.ptr 0 0 0 [], .lit (is l)] (dkS d) R := by
  have hs : tmpN.size ≤ maxLen := by decide
  have hs2 : filN.size ≤ maxLen := by decide
  have h0 : DkAt (dkS d ++ [some (.cells 33 0 [.ptr 0 0 0 []]), some (.cells 22 0 [.lit (is l)]), some (.cells 25 0 [i64 0])]) 0 1 d := ⟨by decide, rfl, rfl⟩
  refine C_new tOK ?_
  unfold manSwap at h
  cases hok : okL l with
  | false =>
    rw [hok] at h
    refine C_bodyDk tOK Try.func29 rfl (Nat.le_of_ble_eq_true rfl) fun K hK => ?_; simp
    refine TZ_seqk fun K1 hK1 => TZ_of_T ?_
    simp
    repeat (first | (refine T_seqk fun K hK => ?_) | (refine T_reg tOK rfl ?_; simp) | (refine T_ret ?_; try simp) | (refine T_skip ?_; try simp) | (refine T_blockk fun K hK => ?_) | (with_reducible apply_assumption -exfalso -symm) | (rw [afterRF_ret]; simp) | (refine T_exit ?_; try simp) | (refine T_cond_t ?_ ?_; · (simp; done)) | (refine T_cond_f ?_ ?_; · (simp; done)) | (rintro _ _ (_ | _) hz9 <;> first | (simp; done) | (simp at hz9; done)) | (refine And.intro ?_ ?_) | (simp only [Post.block_ret, Post.block_exit, Post.block_normal, Post.block_pan, Post.seq_ret, Post.seq_exit, Post.seq_normal, Post.seq_pan]; try simp))
    refine TZ_seqk fun K1 hK1 => TZ_of_T ?_
    simp
    repeat (first | (refine T_seqk fun K hK => ?_) | (refine T_reg tOK rfl ?_; simp) | (refine T_ret ?_; try simp) | (refine T_skip ?_; try simp) | (refine T_blockk fun K hK => ?_) | (with_reducible apply_assumption -exfalso -symm) | (rw [afterRF_ret]; simp) | (refine T_exit ?_; try simp) | (refine T_cond_t ?_ ?_; · (simp; done)) | (refine T_cond_f ?_ ?_; · (simp; done)) | (rintro _ _ (_ | _) hz9 <;> first | (simp; done) | (simp at hz9; done)) | (refine And.intro ?_ ?_) | (simp only [Post.block_ret, Post.block_exit, Post.block_normal, Post.block_pan, Post.seq_ret, Post.seq_exit, Post.seq_normal, Post.seq_pan]; try simp))
    refine C_right hl ?_
    rw [hok]
    repeat (first | (refine T_seqk fun K hK => ?_) | (refine T_reg tOK rfl ?_; simp) | (refine T_ret ?_; try simp) | (refine T_skip ?_; try simp) | (refine T_blockk fun K hK => ?_) | (with_reducible apply_assumption -exfalso -symm) | (rw [afterRF_ret]; simp) | (refine T_exit ?_; try simp) | (refine T_cond_t ?_ ?_; · (simp; done)) | (refine T_cond_f ?_ ?_; · (simp; done)) | (rintro _ _ (_ | _) hz9 <;> first | (simp; done) | (simp at hz9; done)) | (refine And.intro ?_ ?_) | (simp only [Post.block_ret, Post.block_exit, Post.block_normal, Post.block_pan, Post.seq_ret, Post.seq_exit, Post.seq_normal, Post.seq_pan]; try simp))
    · exact .inl (by simp)
    · simpa [frzT, frzN] using h
  | true =>
    rw [hok, if_pos rfl] at h
    refine C_bodyDk tOK Try.func29 rfl (Nat.le_of_ble_eq_true rfl) fun K hK => ?_; simp
    refine TZ_seqk fun K1 hK1 => TZ_of_T ?_
    simp
    repeat (first | (refine T_seqk fun K hK => ?_) | (refine T_reg tOK rfl ?_; simp) | (refine T_ret ?_; try simp) | (refine T_skip ?_; try simp) | (refine T_blockk fun K hK => ?_) | (with_reducible apply_assumption -exfalso -symm) | (rw [afterRF_ret]; simp) | (refine T_exit ?_; try simp) | (refine T_cond_t ?_ ?_; · (simp; done)) | (refine T_cond_f ?_ ?_; · (simp; done)) | (rintro _ _ (_ | _) hz9 <;> first | (simp; done) | (simp at hz9; done)) | (refine And.intro ?_ ?_) | (simp only [Post.block_ret, Post.block_exit, Post.block_normal, Post.block_pan, Post.seq_ret, Post.seq_exit, Post.seq_normal, Post.seq_pan]; try simp))
    refine TZ_seqk fun K1 hK1 => TZ_of_T ?_
    simp
    repeat (first | (refine T_seqk fun K hK => ?_) | (refine T_reg tOK rfl ?_; simp) | (refine T_ret ?_; try simp) | (refine T_skip ?_; try simp) | (refine T_blockk fun K hK => ?_) | (with_reducible apply_assumption -exfalso -symm) | (rw [afterRF_ret]; simp) | (refine T_exit ?_; try simp) | (refine T_cond_t ?_ ?_; · (simp; done)) | (refine T_cond_f ?_ ?_; · (simp; done)) | (rintro _ _ (_ | _) hz9 <;> first | (simp; done) | (simp at hz9; done)) | (refine And.intro ?_ ?_) | (simp only [Post.block_ret, Post.block_exit, Post.block_normal, Post.block_pan, Post.seq_ret, Post.seq_exit, Post.seq_normal, Post.seq_pan]; try simp))
    refine C_right hl ?_
    rw [hok]
    repeat (first | (refine T_seqk fun K hK => ?_) | (refine T_reg tOK rfl ?_; simp) | (refine T_ret ?_; try simp) | (refine T_skip ?_; try simp) | (refine T_blockk fun K hK => ?_) | (with_reducible apply_assumption -exfalso -symm) | (rw [afterRF_ret]; simp) | (refine T_exit ?_; try simp) | (refine T_cond_t ?_ ?_; · (simp; done)) | (refine T_cond_f ?_ ?_; · (simp; done)) | (rintro _ _ (_ | _) hz9 <;> first | (simp; done) | (simp at hz9; done)) | (refine And.intro ?_ ?_) | (simp only [Post.block_ret, Post.block_exit, Post.block_normal, Post.block_pan, Post.seq_ret, Post.seq_exit, Post.seq_normal, Post.seq_pan]; try simp))
    refine TZ_seqk fun K3 hK3 => ?_
    have tail : PLift (∀ fr d1, Inv d1 → Fr.get fr 2 = some (.ptr 2 0 0 []) → Fr.get fr 3 = some (.ptr 3 0 0 []) → Fr.get fr 4 = some (.ptr 4 0 0 []) → R (.ret (i64 (manTurn d1 l).1)) (dkS (manTurn d1 l).2) →
        K3 [] fr (dkS d1 ++ [some (.cells 33 0 [.ptr 0 0 0 []]), some (.cells 22 0 [.lit (is l)]), some (.cells 25 0 [i64 0])])) := ⟨fun fr d1 hI1 g2 g3 g4 h => by
      apply hK3
      clear hK3
      refine TZ_seqk fun K4 hK4 => TZ_of_T ?_
      simp
      repeat (first | (refine T_seqk fun K hK => ?_) | (refine T_reg tOK rfl ?_; simp) | (refine T_ret ?_; try simp) | (refine T_skip ?_; try simp) | (refine T_blockk fun K hK => ?_) | (with_reducible apply_assumption -exfalso -symm) | (rw [afterRF_ret]; simp) | (refine T_exit ?_; try simp) | (refine T_cond_t ?_ ?_; · (simp; done)) | (refine T_cond_f ?_ ?_; · (simp; done)) | (rintro _ _ (_ | _) hz9 <;> first | (simp; done) | (simp at hz9; done)) | (refine And.intro ?_ ?_) | (simp only [Post.block_ret, Post.block_exit, Post.block_normal, Post.block_pan, Post.seq_ret, Post.seq_exit, Post.seq_normal, Post.seq_pan]; try simp))
      refine TZ_seqk fun K5 hK5 => TZ_reg tOK 1 rfl ?_
      simp [g2,g4]
      apply hK5
      clear hK5 hK4 K4 K5
      refine TZ_seqk fun K6 hK6 => TZ_of_T ?_
      simp
      have k1 : IntKind.i64.wrap 1 = 1 := by decide
      have k2 : IntKind.i64.wrap 2 = 2 := by decide
      have k3 : IntKind.i64.wrap 3 = 3 := by decide
      obtain ⟨e, d2, hw⟩ : ∃ e d2, write d1 tmpN (manPut l) = (e, d2) := ⟨_, _, rfl⟩
      have hI2 : Inv d2 := by have := hI1.write (s := tmpN) (b := manPut l); rw [hw] at this; exact this
      unfold manTurn at h
      rw [hw] at h
      repeat (first | (refine T_seqk fun K hK => ?_) | (refine T_reg tOK rfl ?_; simp [g2,g3,g4]) | (refine T_ret ?_; try simp) | (refine T_skip ?_; try simp) | (refine T_blockk fun K hK => ?_) | (with_reducible apply_assumption -exfalso -symm) | (rw [afterRF_ret]; simp [g2,g3,g4]) | (refine T_exit ?_; try simp) | (refine T_cond_t ?_ ?_; · (simp; done)) | (refine T_cond_f ?_ ?_; · (simp; done)) | (rintro _ _ (_ | _) hz9 <;> first | (simp; done) | (simp at hz9; done)) | (refine And.intro ?_ ?_) | (simp only [Post.block_ret, Post.block_exit, Post.block_normal, Post.block_pan, Post.seq_ret, Post.seq_exit, Post.seq_normal, Post.seq_pan]; try simp [g2,g3,g4]))
      refine C_bodyk tOK Try.func61 rfl (Nat.le_of_ble_eq_true rfl) fun K hK => ?_; simp
      repeat (first | (refine T_seqk fun K hK => ?_) | (refine T_reg tOK rfl ?_; simp) | (refine T_ret ?_; try simp) | (refine T_skip ?_; try simp) | (refine T_blockk fun K hK => ?_) | (with_reducible apply_assumption -exfalso -symm) | (rw [afterRF_ret]; simp) | (refine T_exit ?_; try simp) | (refine T_cond_t ?_ ?_; · (simp; done)) | (refine T_cond_f ?_ ?_; · (simp; done)) | (rintro _ _ (_ | _) hz9 <;> first | (simp; done) | (simp at hz9; done)) | (refine And.intro ?_ ?_) | (simp only [Post.block_ret, Post.block_exit, Post.block_normal, Post.block_pan, Post.seq_ret, Post.seq_exit, Post.seq_normal, Post.seq_pan]; try simp))
      refine T_loop (TL_round ?_)
      repeat (first | (refine T_seqk fun K hK => ?_) | (refine T_reg tOK rfl ?_; simp) | (refine T_ret ?_; try simp) | (refine T_skip ?_; try simp) | (refine T_blockk fun K hK => ?_) | (with_reducible apply_assumption -exfalso -symm) | (rw [afterRF_ret]; simp) | (refine T_exit ?_; try simp) | (refine T_cond_t ?_ ?_; · (simp; done)) | (refine T_cond_f ?_ ?_; · (simp; done)) | (rintro _ _ (_ | _) hz9 <;> first | (simp; done) | (simp at hz9; done)) | (refine And.intro ?_ ?_) | (simp only [Post.block_ret, Post.block_exit, Post.block_normal, Post.block_pan, Post.seq_ret, Post.seq_exit, Post.seq_normal, Post.seq_pan]; try simp) | (refine T_draw tOK tmix [([], 0), ([], 1), ([1], 2), ([0, 1, 2], 3), ([0, 1, 2, 3], 4)] 3 (by decide +kernel) ?_; simp) | (refine C_bodyk tOK Try.func62 rfl (Nat.le_of_ble_eq_true rfl) fun K hK => ?_; simp))
      refine RD_call (rd := []) (fun τ _ => C_put hl ⟨rfl, rfl⟩) ?_
      simp
      refine C_write_at (j := 1) (d := d1) ⟨by decide, rfl, rfl⟩ hI1 hs ?_
      rw [hw]
      simp [dkPut, dkBj, dkM]
      cases hz : (e == 0) with
      | false =>
        have hz' : bne e 0 = true := by simp [bne, hz]
        have hzp : (e = 0) = False := by simpa using hz
        simp [hz,hzp] at h
        unfold manUndo at h
        repeat (first | (refine T_seqk fun K hK => ?_) | (refine T_reg tOK rfl ?_; simp [hz',g2,g4]) | (refine T_ret ?_; try simp) | (refine T_skip ?_; try simp) | (refine T_blockk fun K hK => ?_) | (with_reducible apply_assumption -exfalso -symm) | (rw [afterRF_ret]; simp [hz',g2,g4]) | (refine T_exit ?_; try simp) | (refine T_cond_t ?_ ?_; · (simp; done)) | (refine T_cond_f ?_ ?_; · (simp; done)) | (rintro _ _ (_ | _) hz9 <;> first | (simp; done) | (simp at hz9; done)) | (refine And.intro ?_ ?_) | (simp only [Post.block_ret, Post.block_exit, Post.block_normal, Post.block_pan, Post.seq_ret, Post.seq_exit, Post.seq_normal, Post.seq_pan]; try simp [hz',g2,g4]))
        refine TZ_of_T (T_ret ?_)
        simp [g2,g4]
        refine CD_bodyk tOK Try.func60 rfl (Nat.le_of_ble_eq_true rfl) fun R' hR' => ?_
        simp
        cases h42 : (e == 42) with
        | true =>
          have h42' : bne e 42 = false := by simp [bne, h42]
          simp [h42] at h
          repeat (first | (refine T_seqk fun K hK => ?_) | (refine T_reg tOK rfl ?_; simp [h42',g2,g4]) | (refine T_ret ?_; try simp) | (refine T_skip ?_; try simp) | (refine T_blockk fun K hK => ?_) | (with_reducible apply_assumption -exfalso -symm) | (rw [afterRF_ret]; simp [h42',g2,g4]) | (refine T_exit ?_; try simp) | (refine T_cond_t ?_ ?_; · (simp; done)) | (refine T_cond_f ?_ ?_; · (simp; done)) | (rintro _ _ (_ | _) hz9 <;> first | (simp; done) | (simp at hz9; done)) | (refine And.intro ?_ ?_) | (simp only [Post.block_ret, Post.block_exit, Post.block_normal, Post.block_pan, Post.seq_ret, Post.seq_exit, Post.seq_normal, Post.seq_pan]; try simp [h42',g2,g4]))
          · exact .inr (dkS_all d2)
          · simpa [frzT, frzN] using h
        | false =>
          have h42' : bne e 42 = true := by simp [bne, h42]
          simp [h42] at h
          repeat (first | (refine T_seqk fun K hK => ?_) | (refine T_reg tOK rfl ?_; simp [h42',g2,g4]) | (refine T_ret ?_; try simp) | (refine T_skip ?_; try simp) | (refine T_blockk fun K hK => ?_) | (with_reducible apply_assumption -exfalso -symm) | (rw [afterRF_ret]; simp [h42',g2,g4]) | (refine T_exit ?_; try simp) | (refine T_cond_t ?_ ?_; · (simp; done)) | (refine T_cond_f ?_ ?_; · (simp; done)) | (rintro _ _ (_ | _) hz9 <;> first | (simp; done) | (simp at hz9; done)) | (refine And.intro ?_ ?_) | (simp only [Post.block_ret, Post.block_exit, Post.block_normal, Post.block_pan, Post.seq_ret, Post.seq_exit, Post.seq_normal, Post.seq_pan]; try simp [h42',g2,g4]))
          refine C_delete_at (j := 1) (d := d2) ⟨by decide, rfl, rfl⟩ hI2 hs ?_
          simp [dkPut, dkBj, dkM]
          repeat (first | (refine T_seqk fun K hK => ?_) | (refine T_reg tOK rfl ?_; simp [h42',g2,g4]) | (refine T_ret ?_; try simp) | (refine T_skip ?_; try simp) | (refine T_blockk fun K hK => ?_) | (with_reducible apply_assumption -exfalso -symm) | (rw [afterRF_ret]; simp [h42',g2,g4]) | (refine T_exit ?_; try simp) | (refine T_cond_t ?_ ?_; · (simp; done)) | (refine T_cond_f ?_ ?_; · (simp; done)) | (rintro _ _ (_ | _) hz9 <;> first | (simp; done) | (simp at hz9; done)) | (refine And.intro ?_ ?_) | (simp only [Post.block_ret, Post.block_exit, Post.block_normal, Post.block_pan, Post.seq_ret, Post.seq_exit, Post.seq_normal, Post.seq_pan]; try simp [h42',g2,g4]))
          · exact .inr (dkS_all (delete d2 tmpN).2)
          · simpa [frzT, frzN] using h
      | true =>
        have hz' : bne e 0 = false := by simp [bne, hz]
        have hzp : (e = 0) = True := by simpa using hz
        simp [hz,hzp] at h
        repeat (first | (refine T_seqk fun K hK => ?_) | (refine T_reg tOK rfl ?_; simp [hz',g2,g4,k1,k2,k3]) | (refine T_ret ?_; try simp) | (refine T_skip ?_; try simp) | (refine T_blockk fun K hK => ?_) | (with_reducible apply_assumption -exfalso -symm) | (rw [afterRF_ret]; simp [hz',g2,g4,k1,k2,k3]) | (refine T_exit ?_; try simp) | (refine T_cond_t ?_ ?_; · (simp; done)) | (refine T_cond_f ?_ ?_; · (simp; done)) | (rintro _ _ (_ | _) hz9 <;> first | (simp; done) | (simp at hz9; done)) | (refine And.intro ?_ ?_) | (simp only [Post.block_ret, Post.block_exit, Post.block_normal, Post.block_pan, Post.seq_ret, Post.seq_exit, Post.seq_normal, Post.seq_pan]; try simp [hz',g2,g4,k1,k2,k3]))
        obtain ⟨e2, d3, hw2⟩ : ∃ e2 d3, sync d2 tmpN = (e2, d3) := ⟨_, _, rfl⟩
        have hI3 : Inv d3 := by have := hI2.sync (s := tmpN); rw [hw2] at this; exact this
        rw [hw2] at h
        refine TL_round ?_
        repeat (first | (refine T_seqk fun K hK => ?_) | (refine T_reg tOK rfl ?_; simp [k1,k2,k3]) | (refine T_ret ?_; try simp) | (refine T_skip ?_; try simp) | (refine T_blockk fun K hK => ?_) | (with_reducible apply_assumption -exfalso -symm) | (rw [afterRF_ret]; simp [k1,k2,k3]) | (refine T_exit ?_; try simp) | (refine T_cond_t ?_ ?_; · (simp; done)) | (refine T_cond_f ?_ ?_; · (simp; done)) | (rintro _ _ (_ | _) hz9 <;> first | (simp; done) | (simp at hz9; done)) | (refine And.intro ?_ ?_) | (simp only [Post.block_ret, Post.block_exit, Post.block_normal, Post.block_pan, Post.seq_ret, Post.seq_exit, Post.seq_normal, Post.seq_pan]; try simp [k1,k2,k3]) | (refine C_bodyk tOK Try.func63 rfl (Nat.le_of_ble_eq_true rfl) fun K hK => ?_; simp))
        refine C_sync_at (j := 1) (d := d2) ⟨by decide, rfl, rfl⟩ hI2 hs ?_
        rw [hw2]
        simp [dkPut, dkBj, dkM]
        cases hz : (e2 == 0) with
        | false =>
          have hz' : bne e2 0 = true := by simp [bne, hz]
          have hzp : (e2 = 0) = False := by simpa using hz
          simp [hz,hzp] at h
          unfold manUndo at h
          repeat (first | (refine T_seqk fun K hK => ?_) | (refine T_reg tOK rfl ?_; simp [hz',g2,g4]) | (refine T_ret ?_; try simp) | (refine T_skip ?_; try simp) | (refine T_blockk fun K hK => ?_) | (with_reducible apply_assumption -exfalso -symm) | (rw [afterRF_ret]; simp [hz',g2,g4]) | (refine T_exit ?_; try simp) | (refine T_cond_t ?_ ?_; · (simp; done)) | (refine T_cond_f ?_ ?_; · (simp; done)) | (rintro _ _ (_ | _) hz9 <;> first | (simp; done) | (simp at hz9; done)) | (refine And.intro ?_ ?_) | (simp only [Post.block_ret, Post.block_exit, Post.block_normal, Post.block_pan, Post.seq_ret, Post.seq_exit, Post.seq_normal, Post.seq_pan]; try simp [hz',g2,g4]))
          refine TZ_of_T (T_ret ?_)
          simp [g2,g4]
          refine CD_bodyk tOK Try.func60 rfl (Nat.le_of_ble_eq_true rfl) fun R' hR' => ?_
          simp
          cases h42 : (e2 == 42) with
          | true =>
            have h42' : bne e2 42 = false := by simp [bne, h42]
            simp [h42] at h
            repeat (first | (refine T_seqk fun K hK => ?_) | (refine T_reg tOK rfl ?_; simp [h42',g2,g4]) | (refine T_ret ?_; try simp) | (refine T_skip ?_; try simp) | (refine T_blockk fun K hK => ?_) | (with_reducible apply_assumption -exfalso -symm) | (rw [afterRF_ret]; simp [h42',g2,g4]) | (refine T_exit ?_; try simp) | (refine T_cond_t ?_ ?_; · (simp; done)) | (refine T_cond_f ?_ ?_; · (simp; done)) | (rintro _ _ (_ | _) hz9 <;> first | (simp; done) | (simp at hz9; done)) | (refine And.intro ?_ ?_) | (simp only [Post.block_ret, Post.block_exit, Post.block_normal, Post.block_pan, Post.seq_ret, Post.seq_exit, Post.seq_normal, Post.seq_pan]; try simp [h42',g2,g4]))
            · exact .inr (dkS_all d3)
            · simpa [frzT, frzN] using h
          | false =>
            have h42' : bne e2 42 = true := by simp [bne, h42]
            simp [h42] at h
            repeat (first | (refine T_seqk fun K hK => ?_) | (refine T_reg tOK rfl ?_; simp [h42',g2,g4]) | (refine T_ret ?_; try simp) | (refine T_skip ?_; try simp) | (refine T_blockk fun K hK => ?_) | (with_reducible apply_assumption -exfalso -symm) | (rw [afterRF_ret]; simp [h42',g2,g4]) | (refine T_exit ?_; try simp) | (refine T_cond_t ?_ ?_; · (simp; done)) | (refine T_cond_f ?_ ?_; · (simp; done)) | (rintro _ _ (_ | _) hz9 <;> first | (simp; done) | (simp at hz9; done)) | (refine And.intro ?_ ?_) | (simp only [Post.block_ret, Post.block_exit, Post.block_normal, Post.block_pan, Post.seq_ret, Post.seq_exit, Post.seq_normal, Post.seq_pan]; try simp [h42',g2,g4]))
            refine C_delete_at (j := 1) (d := d3) ⟨by decide, rfl, rfl⟩ hI3 hs ?_
            simp [dkPut, dkBj, dkM]
            repeat (first | (refine T_seqk fun K hK => ?_) | (refine T_reg tOK rfl ?_; simp [h42',g2,g4]) | (refine T_ret ?_; try simp) | (refine T_skip ?_; try simp) | (refine T_blockk fun K hK => ?_) | (with_reducible apply_assumption -exfalso -symm) | (rw [afterRF_ret]; simp [h42',g2,g4]) | (refine T_exit ?_; try simp) | (refine T_cond_t ?_ ?_; · (simp; done)) | (refine T_cond_f ?_ ?_; · (simp; done)) | (rintro _ _ (_ | _) hz9 <;> first | (simp; done) | (simp at hz9; done)) | (refine And.intro ?_ ?_) | (simp only [Post.block_ret, Post.block_exit, Post.block_normal, Post.block_pan, Post.seq_ret, Post.seq_exit, Post.seq_normal, Post.seq_pan]; try simp [h42',g2,g4]))
            · exact .inr (dkS_all (delete d3 tmpN).2)
            · simpa [frzT, frzN] using h
        | true =>
          have hz' : bne e2 0 = false := by simp [bne, hz]
          have hzp : (e2 = 0) = True := by simpa using hz
          simp [hz,hzp] at h
          repeat (first | (refine T_seqk fun K hK => ?_) | (refine T_reg tOK rfl ?_; simp [hz',g2,g4,k1,k2,k3]) | (refine T_ret ?_; try simp) | (refine T_skip ?_; try simp) | (refine T_blockk fun K hK => ?_) | (with_reducible apply_assumption -exfalso -symm) | (rw [afterRF_ret]; simp [hz',g2,g4,k1,k2,k3]) | (refine T_exit ?_; try simp) | (refine T_cond_t ?_ ?_; · (simp; done)) | (refine T_cond_f ?_ ?_; · (simp; done)) | (rintro _ _ (_ | _) hz9 <;> first | (simp; done) | (simp at hz9; done)) | (refine And.intro ?_ ?_) | (simp only [Post.block_ret, Post.block_exit, Post.block_normal, Post.block_pan, Post.seq_ret, Post.seq_exit, Post.seq_normal, Post.seq_pan]; try simp [hz',g2,g4,k1,k2,k3]))
          refine TL_round ?_
          repeat (first | (refine T_seqk fun K hK => ?_) | (refine T_reg tOK rfl ?_; simp [k1,k2,k3]) | (refine T_ret ?_; try simp) | (refine T_skip ?_; try simp) | (refine T_blockk fun K hK => ?_) | (with_reducible apply_assumption -exfalso -symm) | (rw [afterRF_ret]; simp [k1,k2,k3]) | (refine T_exit ?_; try simp) | (refine T_cond_t ?_ ?_; · (simp; done)) | (refine T_cond_f ?_ ?_; · (simp; done)) | (rintro _ _ (_ | _) hz9 <;> first | (simp; done) | (simp at hz9; done)) | (refine And.intro ?_ ?_) | (simp only [Post.block_ret, Post.block_exit, Post.block_normal, Post.block_pan, Post.seq_ret, Post.seq_exit, Post.seq_normal, Post.seq_pan]; try simp [k1,k2,k3]) | (refine C_bodyk tOK Try.func64 rfl (Nat.le_of_ble_eq_true rfl) fun K hK => ?_; simp))
          obtain ⟨e3, d4, hw3⟩ : ∃ e3 d4, rename d3 tmpN filN = (e3, d4) := ⟨_, _, rfl⟩
          rw [hw3] at h
          refine C_rename_at (j := 1) (d := d3) ⟨by decide, rfl, rfl⟩ hI3 hs ?_
          rw [hw3]
          simp [dkPut, dkBj, dkM]
          cases hz3 : (e3 == 0) with
          | false =>
            have hz3' : bne e3 0 = true := by simp [bne, hz3]
            repeat (first | (refine T_seqk fun K hK => ?_) | (refine T_reg tOK rfl ?_; simp [hz3',g2,g4,k1,k2,k3]) | (refine T_ret ?_; try simp) | (refine T_skip ?_; try simp) | (refine T_blockk fun K hK => ?_) | (with_reducible apply_assumption -exfalso -symm) | (rw [afterRF_ret]; simp [hz3',g2,g4,k1,k2,k3]) | (refine T_exit ?_; try simp) | (refine T_cond_t ?_ ?_; · (simp; done)) | (refine T_cond_f ?_ ?_; · (simp; done)) | (rintro _ _ (_ | _) hz9 <;> first | (simp; done) | (simp at hz9; done)) | (refine And.intro ?_ ?_) | (simp only [Post.block_ret, Post.block_exit, Post.block_normal, Post.block_pan, Post.seq_ret, Post.seq_exit, Post.seq_normal, Post.seq_pan]; try simp [hz3',g2,g4,k1,k2,k3]))
            refine TZ_of_T (T_ret ?_)
            simp [g2,g4]
            refine CD_bodyk tOK Try.func60 rfl (Nat.le_of_ble_eq_true rfl) fun R' hR' => ?_
            simp
            repeat (first | (refine T_seqk fun K hK => ?_) | (refine T_reg tOK rfl ?_; simp [g2,g4]) | (refine T_ret ?_; try simp) | (refine T_skip ?_; try simp) | (refine T_blockk fun K hK => ?_) | (with_reducible apply_assumption -exfalso -symm) | (rw [afterRF_ret]; simp [g2,g4]) | (refine T_exit ?_; try simp) | (refine T_cond_t ?_ ?_; · (simp; done)) | (refine T_cond_f ?_ ?_; · (simp; done)) | (rintro _ _ (_ | _) hz9 <;> first | (simp; done) | (simp at hz9; done)) | (refine And.intro ?_ ?_) | (simp only [Post.block_ret, Post.block_exit, Post.block_normal, Post.block_pan, Post.seq_ret, Post.seq_exit, Post.seq_normal, Post.seq_pan]; try simp [g2,g4]))
            · exact .inr (dkS_all d4)
            · simpa [frzT, frzN] using h
          | true =>
            have hz3' : bne e3 0 = false := by simp [bne, hz3]
            have e0 : e3 = 0 := by simpa using hz3
            subst e0
            repeat (first | (refine T_seqk fun K hK => ?_) | (refine T_reg tOK rfl ?_; simp [hz3',g2,g4,k1,k2,k3]) | (refine T_ret ?_; try simp) | (refine T_skip ?_; try simp) | (refine T_blockk fun K hK => ?_) | (with_reducible apply_assumption -exfalso -symm) | (rw [afterRF_ret]; simp [hz3',g2,g4,k1,k2,k3]) | (refine T_exit ?_; try simp) | (refine T_cond_t ?_ ?_; · (simp; done)) | (refine T_cond_f ?_ ?_; · (simp; done)) | (rintro _ _ (_ | _) hz9 <;> first | (simp; done) | (simp at hz9; done)) | (refine And.intro ?_ ?_) | (simp only [Post.block_ret, Post.block_exit, Post.block_normal, Post.block_pan, Post.seq_ret, Post.seq_exit, Post.seq_normal, Post.seq_pan]; try simp [hz3',g2,g4,k1,k2,k3]))
            refine TL_round ?_
            repeat (first | (refine T_seqk fun K hK => ?_) | (refine T_reg tOK rfl ?_; simp [g2,g4,k1,k2,k3]) | (refine T_ret ?_; try simp) | (refine T_skip ?_; try simp) | (refine T_blockk fun K hK => ?_) | (with_reducible apply_assumption -exfalso -symm) | (rw [afterRF_ret]; simp [g2,g4,k1,k2,k3]) | (refine T_exit ?_; try simp) | (refine T_cond_t ?_ ?_; · (simp; done)) | (refine T_cond_f ?_ ?_; · (simp; done)) | (rintro _ _ (_ | _) hz9 <;> first | (simp; done) | (simp at hz9; done)) | (refine And.intro ?_ ?_) | (simp only [Post.block_ret, Post.block_exit, Post.block_normal, Post.block_pan, Post.seq_ret, Post.seq_exit, Post.seq_normal, Post.seq_pan]; try simp [g2,g4,k1,k2,k3]))
            refine TZ_of_T (T_ret ?_)
            simp [g2,g4]
            refine CD_bodyk tOK Try.func60 rfl (Nat.le_of_ble_eq_true rfl) fun R' hR' => ?_
            simp
            repeat (first | (refine T_seqk fun K hK => ?_) | (refine T_reg tOK rfl ?_; simp [g2,g4]) | (refine T_ret ?_; try simp) | (refine T_skip ?_; try simp) | (refine T_blockk fun K hK => ?_) | (with_reducible apply_assumption -exfalso -symm) | (rw [afterRF_ret]; simp [g2,g4]) | (refine T_exit ?_; try simp) | (refine T_cond_t ?_ ?_; · (simp; done)) | (refine T_cond_f ?_ ?_; · (simp; done)) | (rintro _ _ (_ | _) hz9 <;> first | (simp; done) | (simp at hz9; done)) | (refine And.intro ?_ ?_) | (simp only [Post.block_ret, Post.block_exit, Post.block_normal, Post.block_pan, Post.seq_ret, Post.seq_exit, Post.seq_normal, Post.seq_pan]; try simp [g2,g4]))
            · exact .inr (dkS_all d4)
            · simpa [frzT, frzN] using h
      ⟩
    clear hK3
    cases hg : dget tmpN.data.toList d.files with
    | none =>
      rw [hg] at h
      refine TZ_of_T ?_
      simp
      repeat (first | (refine T_seqk fun K hK => ?_) | (refine T_reg tOK rfl ?_; simp) | (refine T_ret ?_; try simp) | (refine T_skip ?_; try simp) | (refine T_blockk fun K hK => ?_) | (with_reducible apply_assumption -exfalso -symm) | (rw [afterRF_ret]; simp) | (refine T_exit ?_; try simp) | (refine T_cond_t ?_ ?_; · (simp; done)) | (refine T_cond_f ?_ ?_; · (simp; done)) | (rintro _ _ (_ | _) hz9 <;> first | (simp; done) | (simp at hz9; done)) | (refine And.intro ?_ ?_) | (simp only [Post.block_ret, Post.block_exit, Post.block_normal, Post.block_pan, Post.seq_ret, Post.seq_exit, Post.seq_normal, Post.seq_pan]; try simp))
      refine C_read_at (j := 1) h0 hI hs ?_
      simp [hg]
      repeat (first | (refine T_seqk fun K hK => ?_) | (refine T_reg tOK rfl ?_; simp) | (refine T_ret ?_; try simp) | (refine T_skip ?_; try simp) | (refine T_blockk fun K hK => ?_) | (with_reducible apply_assumption -exfalso -symm) | (rw [afterRF_ret]; simp) | (refine T_exit ?_; try simp) | (refine T_cond_t ?_ ?_; · (simp; done)) | (refine T_cond_f ?_ ?_; · (simp; done)) | (rintro _ _ (_ | _) hz9 <;> first | (simp; done) | (simp at hz9; done)) | (refine And.intro ?_ ?_) | (simp only [Post.block_ret, Post.block_exit, Post.block_normal, Post.block_pan, Post.seq_ret, Post.seq_exit, Post.seq_normal, Post.seq_pan]; try simp))
      exact tail.down _ d hI rfl rfl rfl (by simpa using h)
    | some f =>
      rw [hg] at h
      obtain ⟨e, d1, he⟩ : ∃ e d1, delete d tmpN = (e, d1) := ⟨_, _, rfl⟩
      have hI1 : Inv d1 := by have := hI.delete (s := tmpN); rw [he] at this; exact this
      rw [he] at h
      refine TZ_of_T ?_
      simp
      repeat (first | (refine T_seqk fun K hK => ?_) | (refine T_reg tOK rfl ?_; simp) | (refine T_ret ?_; try simp) | (refine T_skip ?_; try simp) | (refine T_blockk fun K hK => ?_) | (with_reducible apply_assumption -exfalso -symm) | (rw [afterRF_ret]; simp) | (refine T_exit ?_; try simp) | (refine T_cond_t ?_ ?_; · (simp; done)) | (refine T_cond_f ?_ ?_; · (simp; done)) | (rintro _ _ (_ | _) hz9 <;> first | (simp; done) | (simp at hz9; done)) | (refine And.intro ?_ ?_) | (simp only [Post.block_ret, Post.block_exit, Post.block_normal, Post.block_pan, Post.seq_ret, Post.seq_exit, Post.seq_normal, Post.seq_pan]; try simp))
      refine C_read_at (j := 1) h0 hI hs ?_
      simp [hg]
      repeat (first | (refine T_seqk fun K hK => ?_) | (refine T_reg tOK rfl ?_; simp) | (refine T_ret ?_; try simp) | (refine T_skip ?_; try simp) | (refine T_blockk fun K hK => ?_) | (with_reducible apply_assumption -exfalso -symm) | (rw [afterRF_ret]; simp) | (refine T_exit ?_; try simp) | (refine T_cond_t ?_ ?_; · (simp; done)) | (refine T_cond_f ?_ ?_; · (simp; done)) | (rintro _ _ (_ | _) hz9 <;> first | (simp; done) | (simp at hz9; done)) | (refine And.intro ?_ ?_) | (simp only [Post.block_ret, Post.block_exit, Post.block_normal, Post.block_pan, Post.seq_ret, Post.seq_exit, Post.seq_normal, Post.seq_pan]; try simp))
      refine C_delete_at (j := 1) h0 hI hs ?_
      rw [he]
      cases hz : (e == 0) with
      | true =>
        have hz' : bne e 0 = false := by simp [bne, hz]
        have hzp : (e = 0) = True := by simpa using hz
        simp [hz,hzp] at h
        simp [dkPut, dkBj, dkM]
        repeat (first | (refine T_seqk fun K hK => ?_) | (refine T_reg tOK rfl ?_; simp [hz']) | (refine T_ret ?_; try simp) | (refine T_skip ?_; try simp) | (refine T_blockk fun K hK => ?_) | (with_reducible apply_assumption -exfalso -symm) | (rw [afterRF_ret]; simp [hz']) | (refine T_exit ?_; try simp) | (refine T_cond_t ?_ ?_; · (simp; done)) | (refine T_cond_f ?_ ?_; · (simp; done)) | (rintro _ _ (_ | _) hz9 <;> first | (simp; done) | (simp at hz9; done)) | (refine And.intro ?_ ?_) | (simp only [Post.block_ret, Post.block_exit, Post.block_normal, Post.block_pan, Post.seq_ret, Post.seq_exit, Post.seq_normal, Post.seq_pan]; try simp [hz']))
        exact tail.down _ d1 hI1 rfl rfl rfl h
      | false =>
        have hz' : bne e 0 = true := by simp [bne, hz]
        have hzp : (e = 0) = False := by simpa using hz
        simp [hz,hzp] at h
        simp [dkPut, dkBj, dkM]
        clear tail
        repeat (first | (refine T_seqk fun K hK => ?_) | (refine T_reg tOK rfl ?_; simp [hz']) | (refine T_ret ?_; try simp) | (refine T_skip ?_; try simp) | (refine T_blockk fun K hK => ?_) | (with_reducible apply_assumption -exfalso -symm) | (rw [afterRF_ret]; simp [hz']) | (refine T_exit ?_; try simp) | (refine T_cond_t ?_ ?_; · (simp; done)) | (refine T_cond_f ?_ ?_; · (simp; done)) | (rintro _ _ (_ | _) hz9 <;> first | (simp; done) | (simp at hz9; done)) | (refine And.intro ?_ ?_) | (simp only [Post.block_ret, Post.block_exit, Post.block_normal, Post.block_pan, Post.seq_ret, Post.seq_exit, Post.seq_normal, Post.seq_pan]; try simp [hz']))
        · exact .inr (dkS_all d1)
        · simpa [frzT, frzN] using h
end
end Go.Proofs.Ytdplbgfokoajjaa
end
section
/- Manifests' live question. -/
set_option linter.unusedVariables false
set_option linter.unusedSimpArgs false
set_option maxRecDepth 20000
namespace Go.Proofs.Ytdplbgfokoajjaa
open Go
attribute [local simp] RF_nil RF_cons afterRF_ret nilCmp sop sGuard isCall sCallee Fr.eval Fr.get Fr.put ofConst sLoad sStore sBuiltin Fr.args bodyQ sRes oneOf sBin sInt sUn
attribute [local simp] RD_nil RD_cons noConf clear accAdd Tab.pr Tab.slot foot wid idOf refId Op.operands Call.operands sFieldAddr sNilCheck sLookup keyLit sMapSet sMapDel sLen Store.at Store.new getP setP typeAt fits evalParts sBuildSlice sFill sList sApp sAppend frzRe frz pureB pureL
attribute [local simp] optEval sSlice sIndexAddr xop sClear

section
variable {R : Re → Store → Prop} {σ : Store} {d : Dk} {i j : Nat} {l : List Int}
theorem C_swap_at (h0 : DkAt σ i j d) (hI : Inv d) (hl : l.length < 1000000000) (h : R (.ret (i64 (manSwap d l).1)) (dkPut σ i j (manSwap d l).2)) : C tE 29 [.ptr i 0 0 [], .lit (is l)] σ R :=
  C_at (args := [.ptr 0 0 0 [], .lit (is l)]) h0 rfl (fun R h => C_swap hI hl h) (fun τ => rfl) h
theorem Inv.turn {d : Dk} (h : Inv d) {l : List Int} : Inv (manTurn d l).2 := by
  unfold manTurn manUndo
  simp only
  split
  · split
    · exact h.write.sync.rename
    · split
      · exact h.write.sync
      · exact h.write.sync.delete
  · split
    · exact h.write
    · exact h.write.delete
theorem Inv.swap {d : Dk} (h : Inv d) {l : List Int} : Inv (manSwap d l).2 := by
  unfold manSwap
  simp only
  split
  · split
    · split
      · exact h.delete.turn
      · exact h.delete
    · exact h.turn
  · exact h
theorem C_samei {a b : List Int} (ha : a.length < 1000000000) (hb : b.length < 1000000000) (h : R (.ret (.bool (a == b))) σ) : C tE 12 [.lit (is a), .lit (is b)] σ R := by
  have hla := is_len a
  have hlb := is_len b
  refine C_pure tOK (by simp [pureL_is]) ?_
  cases hn : bne (a.length : Int) (b.length : Int) with
  | true =>
    have : (a == b) = false := by
      rw [beq_eq_false_iff_ne]; rintro rfl; simp at hn
    rw [this] at h
    refine C_bodyk tOK Try.func12 rfl (Nat.le_of_ble_eq_true rfl) fun K hK => ?_; simp
    repeat (first | (refine T_seqk fun K hK => ?_) | (refine T_reg tOK rfl ?_; simp [hla,hlb,hn]) | (refine T_ret ?_; try simp) | (refine T_skip ?_; try simp) | (refine T_blockk fun K hK => ?_) | (with_reducible apply_assumption -exfalso -symm) | (rw [afterRF_ret]; simp [hla,hlb,hn]) | (refine T_exit ?_; try simp) | (refine T_cond_t ?_ ?_; · (simp; done)) | (refine T_cond_f ?_ ?_; · (simp; done)) | (rintro _ _ (_ | _) hz9 <;> first | (simp; done) | (simp at hz9; done)) | (refine And.intro ?_ ?_) | (simp only [Post.block_ret, Post.block_exit, Post.block_normal, Post.block_pan, Post.seq_ret, Post.seq_exit, Post.seq_normal, Post.seq_pan]; try simp [hla,hlb,hn]) | (refine T_draw tOK tmix [([], 0), ([], 1), ([0, 1], 2), ([0, 1, 2], 3), ([], 4), ([], 5), ([4, 5], 6), ([4, 5, 6], 7), ([0, 1, 2, 3, 4, 5, 6, 7], 8)] 8 (by decide +kernel) ?_; simp [hla,hlb,hn]))
  | false =>
    have hlen : a.length = b.length := by simp at hn; omega
    refine C_bodyk tOK Try.func12 rfl (Nat.le_of_ble_eq_true rfl) fun K hK => ?_; simp
    repeat (first | (refine T_seqk fun K hK => ?_) | (refine T_reg tOK rfl ?_; simp [hla,hlb,hn]) | (refine T_ret ?_; try simp) | (refine T_skip ?_; try simp) | (refine T_blockk fun K hK => ?_) | (with_reducible apply_assumption -exfalso -symm) | (rw [afterRF_ret]; simp [hla,hlb,hn]) | (refine T_exit ?_; try simp) | (refine T_cond_t ?_ ?_; · (simp; done)) | (refine T_cond_f ?_ ?_; · (simp; done)) | (rintro _ _ (_ | _) hz9 <;> first | (simp; done) | (simp at hz9; done)) | (refine And.intro ?_ ?_) | (simp only [Post.block_ret, Post.block_exit, Post.block_normal, Post.block_pan, Post.seq_ret, Post.seq_exit, Post.seq_normal, Post.seq_pan]; try simp [hla,hlb,hn]) | (refine T_draw tOK tmix [([], 0), ([], 1), ([0, 1], 2), ([0, 1, 2], 3), ([], 4), ([], 5), ([4, 5], 6), ([4, 5, 6], 7), ([0, 1, 2, 3, 4, 5, 6, 7], 8)] 8 (by decide +kernel) ?_; simp [hla,hlb,hn]))
    refine T_loop ?_
    refine TL_keep [0, 1, 5] ?_
    simp [Fr.keep]
    refine TL_st a.length (fun k fr σ => fr = [(0, .lit (is a)), (1, .lit (is b)), (5, i64 k)] ∧ σ = [] ∧ a.take k = b.take k) ?_ ?_ ⟨rfl, rfl, by simp⟩
    · rintro fr σ ⟨rfl, rfl, hp⟩
      rw [List.take_length, hlen, List.take_length] at hp
      subst hp
      simp at h
      refine TL_round ?_
      repeat (first | (refine T_seqk fun K hK => ?_) | (refine T_reg tOK rfl ?_; simp [hla]) | (refine T_ret ?_; try simp) | (refine T_skip ?_; try simp) | (refine T_blockk fun K hK => ?_) | (with_reducible apply_assumption -exfalso -symm) | (rw [afterRF_ret]; simp [hla]) | (refine T_exit ?_; try simp) | (refine T_cond_t ?_ ?_; · (simp; done)) | (refine T_cond_f ?_ ?_; · (simp; done)) | (rintro _ _ (_ | _) hz9 <;> first | (simp; done) | (simp at hz9; done)) | (refine And.intro ?_ ?_) | (simp only [Post.block_ret, Post.block_exit, Post.block_normal, Post.block_pan, Post.seq_ret, Post.seq_exit, Post.seq_normal, Post.seq_pan]; try simp [hla]) | (refine T_draw tOK tmix [([], 0), ([], 1), ([0, 1], 2), ([0, 1, 2], 3), ([], 4), ([], 5), ([4, 5], 6), ([4, 5, 6], 7), ([0, 1, 2, 3, 4, 5, 6, 7], 8)] 8 (by decide +kernel) ?_; simp [hla]))
    · rintro k fr σ hk ⟨rfl, rfl, hp⟩ ih
      replace ih := PLift.up ih
      have hkb : k < b.length := by omega
      have hk0 : decide (k < a.length) = true := by simpa using hk
      have hwk : IntKind.i64.wrap ((k : Int) + 1) = ((k + 1 : Nat) : Int) := by rw [IntWalk.i64_in _ (by omega)]; omega
      have ea := is_get hk
      have eb := is_get hkb
      have la : k < (is a).length := by omega
      have lb : k < (is b).length := by omega
      have ea' := get_of ea la
      have eb' := get_of eb lb
      refine TL_round ?_
      cases hb : bne a[k] b[k] with
      | true =>
        have : (a == b) = false := by
          rw [beq_eq_false_iff_ne]; rintro rfl; simp at hb
        rw [this] at h
        clear ih
        repeat (first | (refine T_seqk fun K hK => ?_) | (refine T_reg tOK rfl ?_; simp [hk0,hwk,ea,eb,ea',eb',la,lb,hb,hla,hlb,hk,hkb]) | (refine T_ret ?_; try simp) | (refine T_skip ?_; try simp) | (refine T_blockk fun K hK => ?_) | (with_reducible apply_assumption -exfalso -symm) | (rw [afterRF_ret]; simp [hk0,hwk,ea,eb,ea',eb',la,lb,hb,hla,hlb,hk,hkb]) | (refine T_exit ?_; try simp) | (refine T_cond_t ?_ ?_; · (simp; done)) | (refine T_cond_f ?_ ?_; · (simp; done)) | (rintro _ _ (_ | _) hz9 <;> first | (simp; done) | (simp at hz9; done)) | (refine And.intro ?_ ?_) | (simp only [Post.block_ret, Post.block_exit, Post.block_normal, Post.block_pan, Post.seq_ret, Post.seq_exit, Post.seq_normal, Post.seq_pan]; try simp [hk0,hwk,ea,eb,ea',eb',la,lb,hb,hla,hlb,hk,hkb]) | (refine T_draw tOK tmix [([], 0), ([], 1), ([0, 1], 2), ([0, 1, 2], 3), ([], 4), ([], 5), ([4, 5], 6), ([4, 5, 6], 7), ([0, 1, 2, 3, 4, 5, 6, 7], 8)] 8 (by decide +kernel) ?_; simp [hk0,hwk,ea,eb,ea',eb',la,lb,hb,hla,hlb,hk,hkb]))
      | false =>
        repeat (first | (refine T_seqk fun K hK => ?_) | (refine T_reg tOK rfl ?_; simp [hk0,hwk,ea,eb,ea',eb',la,lb,hb,hla,hlb,hk,hkb]) | (refine T_ret ?_; try simp) | (refine T_skip ?_; try simp) | (refine T_blockk fun K hK => ?_) | (with_reducible apply_assumption -exfalso -symm) | (rw [afterRF_ret]; simp [hk0,hwk,ea,eb,ea',eb',la,lb,hb,hla,hlb,hk,hkb]) | (refine T_exit ?_; try simp) | (refine T_cond_t ?_ ?_; · (simp; done)) | (refine T_cond_f ?_ ?_; · (simp; done)) | (rintro _ _ (_ | _) hz9 <;> first | (simp; done) | (simp at hz9; done)) | (refine And.intro ?_ ?_) | (simp only [Post.block_ret, Post.block_exit, Post.block_normal, Post.block_pan, Post.seq_ret, Post.seq_exit, Post.seq_normal, Post.seq_pan]; try simp [hk0,hwk,ea,eb,ea',eb',la,lb,hb,hla,hlb,hk,hkb]) | (refine T_draw tOK tmix [([], 0), ([], 1), ([0, 1], 2), ([0, 1, 2], 3), ([], 4), ([], 5), ([4, 5], 6), ([4, 5, 6], 7), ([0, 1, 2, 3, 4, 5, 6, 7], 8)] 8 (by decide +kernel) ?_; simp [hk0,hwk,ea,eb,ea',eb',la,lb,hb,hla,hlb,hk,hkb]))
        refine TL_fall (fr' := [(0, .lit (is a)), (1, .lit (is b)), (5, i64 ((k + 1 : Nat) : Int))]) (σ' := []) 0 [0, 1, 5] (by simp) (by simp [Fr.keep]) (by simp [belowFr, belowB, belowL_of_pure 0 _ (pureL_is a), belowL_of_pure 0 _ (pureL_is b)]) (by simp) rfl (ih.down _ _ ⟨rfl, rfl, ?_⟩)
        have he : a[k] = b[k] := by simpa using hb
        rw [List.take_add_one, List.take_add_one, hp, List.getElem?_eq_getElem hk, List.getElem?_eq_getElem hkb, he]
theorem strs_len (l : List (List UInt8)) : (strs l).length = l.length := by simp [strs]
theorem pureL_strs (l : List (List UInt8)) : pureL (strs l) = true := by
  unfold strs
  exact pureL_map _ (fun _ => rfl) l
theorem C_sames {a b : List (List UInt8)} (ha : a.length < 1000000000) (hb : b.length < 1000000000) (h : R (.ret (.bool (a == b))) σ) : C tE 21 [.lit (strs a), .lit (strs b)] σ R := by
  have hla := strs_len a
  have hlb := strs_len b
  refine C_pure tOK (by simp [pureL_strs]) ?_
  cases hn : bne (a.length : Int) (b.length : Int) with
  | true =>
    have : (a == b) = false := by
      rw [beq_eq_false_iff_ne]; rintro rfl; simp at hn
    rw [this] at h
    refine C_bodyk tOK Try.func21 rfl (Nat.le_of_ble_eq_true rfl) fun K hK => ?_; simp
    repeat (first | (refine T_seqk fun K hK => ?_) | (refine T_reg tOK rfl ?_; simp [hla,hlb,hn]) | (refine T_ret ?_; try simp) | (refine T_skip ?_; try simp) | (refine T_blockk fun K hK => ?_) | (with_reducible apply_assumption -exfalso -symm) | (rw [afterRF_ret]; simp [hla,hlb,hn]) | (refine T_exit ?_; try simp) | (refine T_cond_t ?_ ?_; · (simp; done)) | (refine T_cond_f ?_ ?_; · (simp; done)) | (rintro _ _ (_ | _) hz9 <;> first | (simp; done) | (simp at hz9; done)) | (refine And.intro ?_ ?_) | (simp only [Post.block_ret, Post.block_exit, Post.block_normal, Post.block_pan, Post.seq_ret, Post.seq_exit, Post.seq_normal, Post.seq_pan]; try simp [hla,hlb,hn]) | (refine T_draw tOK tmix [([], 0), ([], 1), ([0, 1], 2), ([0, 1, 2], 3), ([], 4), ([], 5), ([4, 5], 6), ([4, 5, 6], 7), ([0, 1, 2, 3, 4, 5, 6, 7], 8)] 8 (by decide +kernel) ?_; simp [hla,hlb,hn]))
  | false =>
    have hlen : a.length = b.length := by simp at hn; omega
    refine C_bodyk tOK Try.func21 rfl (Nat.le_of_ble_eq_true rfl) fun K hK => ?_; simp
    repeat (first | (refine T_seqk fun K hK => ?_) | (refine T_reg tOK rfl ?_; simp [hla,hlb,hn]) | (refine T_ret ?_; try simp) | (refine T_skip ?_; try simp) | (refine T_blockk fun K hK => ?_) | (with_reducible apply_assumption -exfalso -symm) | (rw [afterRF_ret]; simp [hla,hlb,hn]) | (refine T_exit ?_; try simp) | (refine T_cond_t ?_ ?_; · (simp; done)) | (refine T_cond_f ?_ ?_; · (simp; done)) | (rintro _ _ (_ | _) hz9 <;> first | (simp; done) | (simp at hz9; done)) | (refine And.intro ?_ ?_) | (simp only [Post.block_ret, Post.block_exit, Post.block_normal, Post.block_pan, Post.seq_ret, Post.seq_exit, Post.seq_normal, Post.seq_pan]; try simp [hla,hlb,hn]) | (refine T_draw tOK tmix [([], 0), ([], 1), ([0, 1], 2), ([0, 1, 2], 3), ([], 4), ([], 5), ([4, 5], 6), ([4, 5, 6], 7), ([0, 1, 2, 3, 4, 5, 6, 7], 8)] 8 (by decide +kernel) ?_; simp [hla,hlb,hn]))
    refine T_loop ?_
    refine TL_keep [0, 1, 5] ?_
    simp [Fr.keep]
    refine TL_st a.length (fun k fr σ => fr = [(0, .lit (strs a)), (1, .lit (strs b)), (5, i64 k)] ∧ σ = [] ∧ a.take k = b.take k) ?_ ?_ ⟨rfl, rfl, by simp⟩
    · rintro fr σ ⟨rfl, rfl, hp⟩
      rw [List.take_length, hlen, List.take_length] at hp
      subst hp
      simp at h
      refine TL_round ?_
      repeat (first | (refine T_seqk fun K hK => ?_) | (refine T_reg tOK rfl ?_; simp [hla]) | (refine T_ret ?_; try simp) | (refine T_skip ?_; try simp) | (refine T_blockk fun K hK => ?_) | (with_reducible apply_assumption -exfalso -symm) | (rw [afterRF_ret]; simp [hla]) | (refine T_exit ?_; try simp) | (refine T_cond_t ?_ ?_; · (simp; done)) | (refine T_cond_f ?_ ?_; · (simp; done)) | (rintro _ _ (_ | _) hz9 <;> first | (simp; done) | (simp at hz9; done)) | (refine And.intro ?_ ?_) | (simp only [Post.block_ret, Post.block_exit, Post.block_normal, Post.block_pan, Post.seq_ret, Post.seq_exit, Post.seq_normal, Post.seq_pan]; try simp [hla]) | (refine T_draw tOK tmix [([], 0), ([], 1), ([0, 1], 2), ([0, 1, 2], 3), ([], 4), ([], 5), ([4, 5], 6), ([4, 5, 6], 7), ([0, 1, 2, 3, 4, 5, 6, 7], 8)] 8 (by decide +kernel) ?_; simp [hla]))
    · rintro k fr σ hk ⟨rfl, rfl, hp⟩ ih
      replace ih := PLift.up ih
      have hkb : k < b.length := by omega
      have hk0 : decide (k < a.length) = true := by simpa using hk
      have hwk : IntKind.i64.wrap ((k : Int) + 1) = ((k + 1 : Nat) : Int) := by rw [IntWalk.i64_in _ (by omega)]; omega
      have ea : (strs a)[k]? = some (.str ⟨a[k].toArray⟩) := by simp [strs, hk]
      have eb : (strs b)[k]? = some (.str ⟨b[k].toArray⟩) := by simp [strs, hkb]
      have la : k < (strs a).length := by omega
      have lb : k < (strs b).length := by omega
      have ea' := get_of ea la
      have eb' := get_of eb lb
      have hda : (ByteArray.mk a[k].toArray).toList = a[k] := by rw [bytes_toList]
      have hdb : (ByteArray.mk b[k].toArray).toList = b[k] := by rw [bytes_toList]
      refine TL_round ?_
      cases hb : (a[k] == b[k]) with
      | false =>
        have : (a == b) = false := by
          rw [beq_eq_false_iff_ne]; rintro rfl; simp at hb
        rw [this] at h
        clear ih
        repeat (first | (refine T_seqk fun K hK => ?_) | (refine T_reg tOK rfl ?_; simp [hk0,hwk,ea,eb,ea',eb',la,lb,hb,hla,hlb,hk,hkb,hda,hdb]) | (refine T_ret ?_; try simp) | (refine T_skip ?_; try simp) | (refine T_blockk fun K hK => ?_) | (with_reducible apply_assumption -exfalso -symm) | (rw [afterRF_ret]; simp [hk0,hwk,ea,eb,ea',eb',la,lb,hb,hla,hlb,hk,hkb,hda,hdb]) | (refine T_exit ?_; try simp) | (refine T_cond_t ?_ ?_; · (simp; done)) | (refine T_cond_f ?_ ?_; · (simp; done)) | (rintro _ _ (_ | _) hz9 <;> first | (simp; done) | (simp at hz9; done)) | (refine And.intro ?_ ?_) | (simp only [Post.block_ret, Post.block_exit, Post.block_normal, Post.block_pan, Post.seq_ret, Post.seq_exit, Post.seq_normal, Post.seq_pan]; try simp [hk0,hwk,ea,eb,ea',eb',la,lb,hb,hla,hlb,hk,hkb,hda,hdb]) | (refine T_draw tOK tmix [([], 0), ([], 1), ([0, 1], 2), ([0, 1, 2], 3), ([], 4), ([], 5), ([4, 5], 6), ([4, 5, 6], 7), ([0, 1, 2, 3, 4, 5, 6, 7], 8)] 8 (by decide +kernel) ?_; simp [hk0,hwk,ea,eb,ea',eb',la,lb,hb,hla,hlb,hk,hkb,hda,hdb]))
      | true =>
        repeat (first | (refine T_seqk fun K hK => ?_) | (refine T_reg tOK rfl ?_; simp [hk0,hwk,ea,eb,ea',eb',la,lb,hb,hla,hlb,hk,hkb,hda,hdb]) | (refine T_ret ?_; try simp) | (refine T_skip ?_; try simp) | (refine T_blockk fun K hK => ?_) | (with_reducible apply_assumption -exfalso -symm) | (rw [afterRF_ret]; simp [hk0,hwk,ea,eb,ea',eb',la,lb,hb,hla,hlb,hk,hkb,hda,hdb]) | (refine T_exit ?_; try simp) | (refine T_cond_t ?_ ?_; · (simp; done)) | (refine T_cond_f ?_ ?_; · (simp; done)) | (rintro _ _ (_ | _) hz9 <;> first | (simp; done) | (simp at hz9; done)) | (refine And.intro ?_ ?_) | (simp only [Post.block_ret, Post.block_exit, Post.block_normal, Post.block_pan, Post.seq_ret, Post.seq_exit, Post.seq_normal, Post.seq_pan]; try simp [hk0,hwk,ea,eb,ea',eb',la,lb,hb,hla,hlb,hk,hkb,hda,hdb]) | (refine T_draw tOK tmix [([], 0), ([], 1), ([0, 1], 2), ([0, 1, 2], 3), ([], 4), ([], 5), ([4, 5], 6), ([4, 5, 6], 7), ([0, 1, 2, 3, 4, 5, 6, 7], 8)] 8 (by decide +kernel) ?_; simp [hk0,hwk,ea,eb,ea',eb',la,lb,hb,hla,hlb,hk,hkb,hda,hdb]))
        refine TL_fall (fr' := [(0, .lit (strs a)), (1, .lit (strs b)), (5, i64 ((k + 1 : Nat) : Int))]) (σ' := []) 0 [0, 1, 5] (by simp) (by simp [Fr.keep]) (by simp [belowFr, belowB, belowL_of_pure 0 _ (pureL_strs a), belowL_of_pure 0 _ (pureL_strs b)]) (by simp) rfl (ih.down _ _ ⟨rfl, rfl, ?_⟩)
        have he : a[k] = b[k] := by simpa using hb
        rw [List.take_add_one, List.take_add_one, hp, List.getElem?_eq_getElem hk, List.getElem?_eq_getElem hkb, he]
end
end Go.Proofs.Ytdplbgfokoajjaa
end
