/- What Sync made last is there behind each Crash: the walk. -/
import Derived.Test.YthllcknfidnfaaaEc
set_option linter.unusedVariables false
set_option linter.unusedSimpArgs false
set_option maxRecDepth 4000
namespace Go.Proofs.Ythllcknfidnfaaa
open Go
attribute [local simp] RF_nil RF_cons afterRF_ret nilCmp sop sGuard isCall sCallee Fr.eval Fr.get Fr.put ofConst sLoad sStore sBuiltin Fr.args bodyQ sRes oneOf sBin sInt sUn
attribute [local simp] RD_nil RD_cons noConf clear accAdd Tab.pr Tab.slot foot wid idOf refId Op.operands Call.operands sFieldAddr sNilCheck sLookup keyLit sMapSet sMapDel sLen Store.at Store.new getP setP typeAt fits evalParts sBuildSlice sFill sList sApp sAppend frzRe frz pureB pureL
attribute [local simp] optEval sSlice sIndexAddr

theorem u8sOf_u8l (l : List UInt8) : u8sOf (u8l l) = some l := u8sOf_map l
theorem take_u8l {last b : List UInt8} (h : last <+: b) : List.take last.length (u8l b) = u8l last := by
  rw [← u8l_take, ← List.prefix_iff_eq_take.1 h]
/-- What is remembered from here on. -/
def newly (nm : List UInt8) (o : OpV) (e : Int) (is : Bool) : Bool :=
  ((o.what == 3 || o.what == 4) && e == 0 && o.name.data.toList == nm) || (o.what == 9 && is)
theorem newly_last {nm : List UInt8} {d : Dk} {o : OpV} (hI : Inv d) (ho : o.OK) (h : newly nm o (doOp d o).1 (dget nm (doOp d o).2.files).isSome = true) : ∃ f, dget nm (doOp d o).2.files = some f ∧ f.last = f.b.length := by
  unfold newly at h
  simp only [Bool.or_eq_true, Bool.and_eq_true, beq_iff_eq] at h
  rcases h with ⟨⟨hw, he⟩, hn⟩ | ⟨hw, hs⟩
  · have c : (o.what == 3 || o.what == 4) = true := by simpa using hw
    have hd : doOp d o = sync d o.name := by unfold doOp; rw [if_pos c]
    rw [hd] at he ⊢
    unfold sync at he ⊢
    split at he
    · simp at he
    · rename_i hf
      rw [if_neg hf]
      split at he
      · simp at he
      · rename_i f hg
        split at he
        · simp at he
        · rename_i hp
          simp only [hp, if_false]
          exact ⟨{ f with last := f.b.length }, by show dget nm (dput o.name.data.toList _ d.files) = _; rw [dget_dput, if_pos hn.symm], rfl⟩
  · have hd : doOp d o = (0, crash d o.keep) := by unfold doOp; simp [hw]
    rw [hd] at hs ⊢
    obtain ⟨k, hk⟩ := crash_has (keep := o.keep) hI.key nm
    simp only at hs ⊢
    cases hg : dget nm d.files with
    | none => rw [hk, hg] at hs; simp at hs
    | some f =>
      rw [hg] at hk
      have hF := hI.flOK hg
      have h1 := hF.lo
      have h2 := hF.hi
      refine ⟨crF f k, hk, ?_⟩
      unfold crF
      split
      · show f.last + min (max _ 0) (f.b.length - f.last) = ((f.b.take _).length : Nat)
        rw [List.length_take]; omega
      · show f.last = ((f.b.take _).length : Nat)
        rw [List.length_take]; omega

theorem u8len (l : List UInt8) : (u8l l).length = l.length := by simp [u8l]
theorem bsz (l : List UInt8) : (⟨l.toArray⟩ : ByteArray).size = l.length := by rw [bytes_size]
section
variable {R : Re → Store → Prop} {l : List OpV} {room : Int} {nm : ByteArray}
set_option maxHeartbeats 4000000 in
theorem C_lasts_law (hl : l.length ≤ 9223372036854775807) (hnm : nm.size ≤ maxLen) (hO : ∀ o ∈ l, o.OK) (h : ∀ σ, R (.ret (.bool true)) σ) : C tE 7 [i64 room, .lit (encOps l), .str nm] [] R := by
  have hll : (encOps l).length = l.length := by simp [encOps]
  refine C_bodyk tOK Try.func7 rfl (Nat.le_of_ble_eq_true rfl) fun K hK => ?_; simp
  repeat (first | (refine T_seqk fun K hK => ?_) | (refine T_reg tOK rfl ?_; simp) | (refine T_ret ?_; try simp) | (refine T_skip ?_; try simp) | (refine T_blockk fun K hK => ?_) | apply_assumption -exfalso -symm | (rw [afterRF_ret]; simp) | (refine T_exit ?_; try simp) | (refine T_cond_t ?_ ?_; · (simp; done)) | (refine T_cond_f ?_ ?_; · (simp; done)) | (rintro _ _ (_ | _) hz9 <;> first | (simp; done) | (simp at hz9; done)) | (refine And.intro ?_ ?_) | (simp only [Post.block_ret, Post.block_exit, Post.block_normal, Post.block_pan, Post.seq_ret, Post.seq_exit, Post.seq_normal, Post.seq_pan]; try simp) | (refine C_head ?_; simp))
  cases hrm : decide (room < 0) || decide (1048576 < room) with
  | true =>
    refine C_new_none hrm ?_
    repeat (first | (refine T_seqk fun K hK => ?_) | (refine T_reg tOK rfl ?_; simp) | (refine T_ret ?_; try simp) | (refine T_skip ?_; try simp) | (refine T_blockk fun K hK => ?_) | apply_assumption -exfalso -symm | (rw [afterRF_ret]; simp) | (refine T_exit ?_; try simp) | (refine T_cond_t ?_ ?_; · (simp; done)) | (refine T_cond_f ?_ ?_; · (simp; done)) | (rintro _ _ (_ | _) hz9 <;> first | (simp; done) | (simp at hz9; done)) | (refine And.intro ?_ ?_) | (simp only [Post.block_ret, Post.block_exit, Post.block_normal, Post.block_pan, Post.seq_ret, Post.seq_exit, Post.seq_normal, Post.seq_pan]; try simp))
    all_goals first | exact h _ | skip
  | false =>
    have hr0 : decide (room < 0) = false := (Bool.or_eq_false_iff.1 hrm).1
    have hr1 : decide (1048576 < room) = false := (Bool.or_eq_false_iff.1 hrm).2
    refine C_new_ok hr0 hr1 ?_
    repeat (first | (refine T_seqk fun K hK => ?_) | (refine T_reg tOK rfl ?_; simp) | (refine T_ret ?_; try simp) | (refine T_skip ?_; try simp) | (refine T_blockk fun K hK => ?_) | apply_assumption -exfalso -symm | (rw [afterRF_ret]; simp) | (refine T_exit ?_; try simp) | (refine T_cond_t ?_ ?_; · (simp; done)) | (refine T_cond_f ?_ ?_; · (simp; done)) | (rintro _ _ (_ | _) hz9 <;> first | (simp; done) | (simp at hz9; done)) | (refine And.intro ?_ ?_) | (simp only [Post.block_ret, Post.block_exit, Post.block_normal, Post.block_pan, Post.seq_ret, Post.seq_exit, Post.seq_normal, Post.seq_pan]; try simp))
    refine C_great (by omega) ?_
    cases hg : great l with
    | true =>
      repeat (first | (refine T_seqk fun K hK => ?_) | (refine T_reg tOK rfl ?_; simp) | (refine T_ret ?_; try simp) | (refine T_skip ?_; try simp) | (refine T_blockk fun K hK => ?_) | apply_assumption -exfalso -symm | (rw [afterRF_ret]; simp) | (refine T_exit ?_; try simp) | (refine T_cond_t ?_ ?_; · (simp; done)) | (refine T_cond_f ?_ ?_; · (simp; done)) | (rintro _ _ (_ | _) hz9 <;> first | (simp; done) | (simp at hz9; done)) | (refine And.intro ?_ ?_) | (simp only [Post.block_ret, Post.block_exit, Post.block_normal, Post.block_pan, Post.seq_ret, Post.seq_exit, Post.seq_normal, Post.seq_pan]; try simp))
      all_goals first | exact h _ | skip
    | false =>
      have hl3 : l.length ≤ 300 := by
        unfold great at hg
        simp only [Bool.or_eq_false_iff, decide_eq_false_iff_not] at hg
        omega
      cases hn9 : decide ((900 : Int) < nm.size) with
      | true =>
        repeat (first | (refine T_seqk fun K hK => ?_) | (refine T_reg tOK rfl ?_; simp [hn9]) | (refine T_ret ?_; try simp) | (refine T_skip ?_; try simp) | (refine T_blockk fun K hK => ?_) | apply_assumption -exfalso -symm | (rw [afterRF_ret]; simp [hn9]) | (refine T_exit ?_; try simp) | (refine T_cond_t ?_ ?_; · (simp; done)) | (refine T_cond_f ?_ ?_; · (simp; done)) | (rintro _ _ (_ | _) hz9 <;> first | (simp; done) | (simp at hz9; done)) | (refine And.intro ?_ ?_) | (simp only [Post.block_ret, Post.block_exit, Post.block_normal, Post.block_pan, Post.seq_ret, Post.seq_exit, Post.seq_normal, Post.seq_pan]; try simp [hn9]))
        all_goals first | exact h _ | skip
      | false =>
        repeat (first | (refine T_seqk fun K hK => ?_) | (refine T_reg tOK rfl ?_; simp [hn9]) | (refine T_ret ?_; try simp) | (refine T_skip ?_; try simp) | (refine T_blockk fun K hK => ?_) | apply_assumption -exfalso -symm | (rw [afterRF_ret]; simp [hn9]) | (refine T_exit ?_; try simp) | (refine T_cond_t ?_ ?_; · (simp; done)) | (refine T_cond_f ?_ ?_; · (simp; done)) | (rintro _ _ (_ | _) hz9 <;> first | (simp; done) | (simp at hz9; done)) | (refine And.intro ?_ ?_) | (simp only [Post.block_ret, Post.block_exit, Post.block_normal, Post.block_pan, Post.seq_ret, Post.seq_exit, Post.seq_normal, Post.seq_pan]; try simp [hn9]))
        have hiv : Inv ⟨room, [], -1, 0⟩ := Inv.new (by simpa using hr0) (by simpa using hr1)
        refine T_loop ?_
        refine TL_keep [1, 2, 7, 8, 9, 10, 11] ?_
        simp [Fr.keep]
        refine (?key : ∀ (r : List OpV) (k : Nat) (d : Dk) (last : List UInt8) (had : Bool), l.drop k = r → Inv d → (had = true → Sure nm.data.toList last d) →
          TL tE _ _ _ _ [(1, .lit (encOps l)), (2, .str nm), (7, .bool true), (8, .ptr 1 0 0 []), (9, .str ⟨last.toArray⟩), (10, .bool had), (11, i64 k)] [some (dkM d), some (dkBj d 0)]) l 0 ⟨room, [], -1, 0⟩ [] false rfl hiv (by simp)
        intro r
        induction r with
        | nil =>
          intro k d last had hdrop hI hS
          have hk0 := drop_nil hdrop
          refine TL_round ?_
          repeat (first | (refine T_seqk fun K hK => ?_) | (refine T_reg tOK rfl ?_; simp [hk0,hll]) | (refine T_ret ?_; try simp) | (refine T_skip ?_; try simp) | (refine T_blockk fun K hK => ?_) | apply_assumption -exfalso -symm | (rw [afterRF_ret]; simp [hk0,hll]) | (refine T_exit ?_; try simp) | (refine T_cond_t ?_ ?_; · (simp; done)) | (refine T_cond_f ?_ ?_; · (simp; done)) | (rintro _ _ (_ | _) hz9 <;> first | (simp; done) | (simp at hz9; done)) | (refine And.intro ?_ ?_) | (simp only [Post.block_ret, Post.block_exit, Post.block_normal, Post.block_pan, Post.seq_ret, Post.seq_exit, Post.seq_normal, Post.seq_pan]; try simp [hk0,hll]))
          all_goals first | exact h _ | skip
        | cons o r ih =>
          intro k d last had hdrop hI hS
          obtain ⟨hkl, hdrop', hlk⟩ := drop_cons hdrop
          have ho := hO o (List.mem_of_getElem? hlk)
          have hek : (encOps l)[k]? = some (encOp o) := by simp [encOps, hlk]
          have hk0 : decide (k < l.length) = true := by simpa using hkl
          have hwk : IntKind.i64.wrap ((k : Int) + 1) = ((k + 1 : Nat) : Int) := by rw [IntWalk.i64_in _ (by omega)]; omega
          have hI' := hI.doOp ho
          have hSd : lost nm.data.toList o (doOp d o).1 = false → had = true → Sure nm.data.toList last (doOp d o).2 := fun hl hh => (hS hh).doOp hI hl
          have hN := fun h => newly_last (nm := nm.data.toList) hI ho h
          have hih := fun last had hs => ih (k + 1) (doOp d o).2 last had hdrop' hI' hs
          clear ih hS
          refine TL_round ?_
          repeat (first | (refine T_seqk fun K hK => ?_) | (refine T_reg tOK rfl ?_; simp [hk0,hll,hek,encOp]) | (refine T_ret ?_; try simp) | (refine T_skip ?_; try simp) | (refine T_blockk fun K hK => ?_) | apply_assumption -exfalso -symm | (rw [afterRF_ret]; simp [hk0,hll,hek,encOp]) | (refine T_exit ?_; try simp) | (refine T_cond_t ?_ ?_; · (simp; done)) | (refine T_cond_f ?_ ?_; · (simp; done)) | (rintro _ _ (_ | _) hz9 <;> first | (simp; done) | (simp at hz9; done)) | (refine And.intro ?_ ?_) | (simp only [Post.block_ret, Post.block_exit, Post.block_normal, Post.block_pan, Post.seq_ret, Post.seq_exit, Post.seq_normal, Post.seq_pan]; try simp [hk0,hll,hek,encOp]))
          refine C_do_at (i := 1) (j := 0) (d := d) (o := o) ⟨by decide, rfl, rfl⟩ hI ho ?_
          generalize (doOp d o).1 = e at hSd hN ⊢
          generalize (doOp d o).2 = d' at hSd hN hih hI' ⊢
          rw [afterRF_ret]
          simp [dkPut]
          apply_assumption -exfalso -symm
          refine T_seqk fun K12 hK12 => ?_
          have tail : PLift (∀ fr, Fr.get fr 1 = some (.lit (encOps l)) → Fr.get fr 2 = some (.str nm) → Fr.get fr 7 = some (.bool true) → Fr.get fr 8 = some (.ptr 1 0 0 []) → Fr.get fr 9 = some (.str ⟨last.toArray⟩) → Fr.get fr 10 = some (.bool had) → Fr.get fr 11 = some (i64 k) → Fr.get fr 12 = some (.ptr 2 0 0 []) → Fr.get fr 13 = some (i64 e) → lost nm.data.toList o e = false → K12 fr [some (dkM d'), some (dkBj d' 0), some (.cells 35 0 [.agg 35 [i64 o.what, .str o.name, .str o.to, u8s o.b, i64 o.n, .lit (ints o.keep)]])]) := by
            refine ⟨?_⟩
            intro fr f1 f2 f7 f8 f9 f10 f11 f12 f13 hlost
            have hS' := hSd hlost
            clear hSd
            apply hK12
            refine T_keep [1, 2, 7, 8, 9, 10, 11, 12, 13] ?_
            simp [Fr.keep, f1, f2, f7, f8, f9, f10, f11, f12, f13]
            repeat (first | (refine T_seqk fun K hK => ?_) | (refine T_reg tOK rfl ?_; simp) | (refine T_ret ?_; try simp) | (refine T_skip ?_; try simp) | (refine T_blockk fun K hK => ?_) | apply_assumption -exfalso -symm | (rw [afterRF_ret]; simp) | (refine T_exit ?_; try simp) | (refine T_cond_t ?_ ?_; · (simp; done)) | (refine T_cond_f ?_ ?_; · (simp; done)) | (rintro _ _ (_ | _) hz9 <;> first | (simp; done) | (simp at hz9; done)) | (refine And.intro ?_ ?_) | (simp only [Post.block_ret, Post.block_exit, Post.block_normal, Post.block_pan, Post.seq_ret, Post.seq_exit, Post.seq_normal, Post.seq_pan]; try simp))
            refine C_read_at (i := 1) (j := 0) (d := d') (s := nm) ⟨by decide, rfl, rfl⟩ hI' hnm ?_
            have hsy : ∀ R : Re → Store → Prop, ∀ σ, DkAt σ 1 0 d' → R (.ret (i64 ((dget nm.data.toList d'.files).elim 0 (·.last)))) σ → C tE 25 [.ptr 1 0 0 [], .str nm] σ R := fun R σ hd hh => C_synced_at hd hnm hh
            have hsure : ∀ f, dget nm.data.toList d'.files = some f → f.last = f.b.length → Sure nm.data.toList f.b d' := fun f h1 h2 => ⟨f, h1, List.prefix_refl _, by omega⟩
            have hS0 := hS'
            unfold Sure at hS'
            generalize dget nm.data.toList d'.files = got at hS' hN hsy hsure ⊢
            rw [afterRF_ret]
            simp
            apply_assumption -exfalso -symm
            refine T_seqk fun K15 hK15 => ?_
            have tail2 : PLift (∀ fr, Fr.get fr 1 = some (.lit (encOps l)) → Fr.get fr 2 = some (.str nm) → Fr.get fr 7 = some (.bool true) → Fr.get fr 8 = some (.ptr 1 0 0 []) → Fr.get fr 9 = some (.str ⟨last.toArray⟩) → Fr.get fr 10 = some (.bool had) → Fr.get fr 11 = some (i64 k) → Fr.get fr 12 = some (.ptr 2 0 0 []) → Fr.get fr 13 = some (i64 e) → Fr.get fr 14 = some (u8s (got.elim [] (·.b))) → Fr.get fr 15 = some (.bool got.isSome) → K15 fr [some (dkM d'), some (dkBj d' 0), some (.cells 35 0 [.agg 35 [i64 o.what, .str o.name, .str o.to, u8s o.b, i64 o.n, .lit (ints o.keep)]])]) := by
              refine ⟨?_⟩
              intro fr f1 f2 f7 f8 f9 f10 f11 f12 f13 f14 f15
              apply hK15
              refine T_keep [1, 2, 7, 8, 9, 10, 11, 12, 13, 14, 15] ?_
              simp [Fr.keep, f1, f2, f7, f8, f9, f10, f11, f12, f13, f14, f15]
              have hskip : had = true → Sure nm.data.toList last d' := hS0
              cases h3 : o.what == 3 with
              | true =>
                have h9 : (o.what == 9) = false := by simp only [beq_iff_eq] at h3; rw [h3]; rfl
                cases hB : e == 0 with
                | true =>
                  cases hC : o.name.toList == nm.toList with
                  | true =>
                    have hC' := hC
                    rw [bytes_toList, bytes_toList] at hC'
                    obtain ⟨f, rfl, hfl⟩ := hN (by simp [newly, h3,hB,hC'])
                    repeat (first | (refine T_seqk fun K hK => ?_) | (refine T_reg tOK rfl ?_; simp [hk0,hll,hek,h3,hB,hC,u8sOf_u8l,u8len]) | (refine T_ret ?_; try simp) | (refine T_skip ?_; try simp) | (refine T_blockk fun K hK => ?_) | apply_assumption -exfalso -symm | (rw [afterRF_ret]; simp [hk0,hll,hek,h3,hB,hC,u8sOf_u8l,u8len]) | (refine T_exit ?_; try simp) | (refine T_cond_t ?_ ?_; · (simp; done)) | (refine T_cond_f ?_ ?_; · (simp; done)) | (rintro _ _ (_ | _) hz9 <;> first | (simp; done) | (simp at hz9; done)) | (refine And.intro ?_ ?_) | (simp only [Post.block_ret, Post.block_exit, Post.block_normal, Post.block_pan, Post.seq_ret, Post.seq_exit, Post.seq_normal, Post.seq_pan]; try simp [hk0,hll,hek,h3,hB,hC,u8sOf_u8l,u8len]))
                    · exact ⟨by decide, rfl, rfl⟩
                    repeat (first | (refine T_seqk fun K hK => ?_) | (refine T_reg tOK rfl ?_; simp [hfl,hwk,u8sOf_u8l,u8len]) | (refine T_ret ?_; try simp) | (refine T_skip ?_; try simp) | (refine T_blockk fun K hK => ?_) | apply_assumption -exfalso -symm | (rw [afterRF_ret]; simp [hfl,hwk,u8sOf_u8l,u8len]) | (refine T_exit ?_; try simp) | (refine T_cond_t ?_ ?_; · (simp; done)) | (refine T_cond_f ?_ ?_; · (simp; done)) | (rintro _ _ (_ | _) hz9 <;> first | (simp; done) | (simp at hz9; done)) | (refine And.intro ?_ ?_) | (simp only [Post.block_ret, Post.block_exit, Post.block_normal, Post.block_pan, Post.seq_ret, Post.seq_exit, Post.seq_normal, Post.seq_pan]; try simp [hfl,hwk,u8sOf_u8l,u8len]))
                    refine TL_fall 2 [1, 2, 7, 8, 9, 10, 11] (Nat.zero_le _) ?_ ?_ ?_ ?_ (hih f.b true (fun _ => hsure f rfl hfl))
                    · simp [Fr.keep]
                    · simp [belowFr, belowB]
                    · rfl
                    · simp only [belowStore, belowBlk, dkM, List.all_cons, encFs_below]; simp [dkBj, belowBlk, belowL, belowB]
                  | false =>
                    repeat (first | (refine T_seqk fun K hK => ?_) | (refine T_reg tOK rfl ?_; simp [hk0,hll,hek,hwk,h3,hB,hC,h9]) | (refine T_ret ?_; try simp) | (refine T_skip ?_; try simp) | (refine T_blockk fun K hK => ?_) | apply_assumption -exfalso -symm | (rw [afterRF_ret]; simp [hk0,hll,hek,hwk,h3,hB,hC,h9]) | (refine T_exit ?_; try simp) | (refine T_cond_t ?_ ?_; · (simp; done)) | (refine T_cond_f ?_ ?_; · (simp; done)) | (rintro _ _ (_ | _) hz9 <;> first | (simp; done) | (simp at hz9; done)) | (refine And.intro ?_ ?_) | (simp only [Post.block_ret, Post.block_exit, Post.block_normal, Post.block_pan, Post.seq_ret, Post.seq_exit, Post.seq_normal, Post.seq_pan]; try simp [hk0,hll,hek,hwk,h3,hB,hC,h9]))
                    refine TL_fall 2 [1, 2, 7, 8, 9, 10, 11] (Nat.zero_le _) ?_ ?_ ?_ ?_ (hih last had hskip)
                    · simp [Fr.keep]
                    · simp [belowFr, belowB]
                    · rfl
                    · simp only [belowStore, belowBlk, dkM, List.all_cons, encFs_below]; simp [dkBj, belowBlk, belowL, belowB]
                | false =>
                  repeat (first | (refine T_seqk fun K hK => ?_) | (refine T_reg tOK rfl ?_; simp [hk0,hll,hek,hwk,h3,hB,h9]) | (refine T_ret ?_; try simp) | (refine T_skip ?_; try simp) | (refine T_blockk fun K hK => ?_) | apply_assumption -exfalso -symm | (rw [afterRF_ret]; simp [hk0,hll,hek,hwk,h3,hB,h9]) | (refine T_exit ?_; try simp) | (refine T_cond_t ?_ ?_; · (simp; done)) | (refine T_cond_f ?_ ?_; · (simp; done)) | (rintro _ _ (_ | _) hz9 <;> first | (simp; done) | (simp at hz9; done)) | (refine And.intro ?_ ?_) | (simp only [Post.block_ret, Post.block_exit, Post.block_normal, Post.block_pan, Post.seq_ret, Post.seq_exit, Post.seq_normal, Post.seq_pan]; try simp [hk0,hll,hek,hwk,h3,hB,h9]))
                  refine TL_fall 2 [1, 2, 7, 8, 9, 10, 11] (Nat.zero_le _) ?_ ?_ ?_ ?_ (hih last had hskip)
                  · simp [Fr.keep]
                  · simp [belowFr, belowB]
                  · rfl
                  · simp only [belowStore, belowBlk, dkM, List.all_cons, encFs_below]; simp [dkBj, belowBlk, belowL, belowB]
              | false =>
                cases h4 : o.what == 4 with
                | true =>
                  have h9 : (o.what == 9) = false := by simp only [beq_iff_eq] at h4; rw [h4]; rfl
                  cases hB : e == 0 with
                  | true =>
                    cases hC : o.name.toList == nm.toList with
                    | true =>
                      have hC' := hC
                      rw [bytes_toList, bytes_toList] at hC'
                      obtain ⟨f, rfl, hfl⟩ := hN (by simp [newly, h3,h4,hB,hC'])
                      repeat (first | (refine T_seqk fun K hK => ?_) | (refine T_reg tOK rfl ?_; simp [hk0,hll,hek,h3,h4,hB,hC,u8sOf_u8l,u8len]) | (refine T_ret ?_; try simp) | (refine T_skip ?_; try simp) | (refine T_blockk fun K hK => ?_) | apply_assumption -exfalso -symm | (rw [afterRF_ret]; simp [hk0,hll,hek,h3,h4,hB,hC,u8sOf_u8l,u8len]) | (refine T_exit ?_; try simp) | (refine T_cond_t ?_ ?_; · (simp; done)) | (refine T_cond_f ?_ ?_; · (simp; done)) | (rintro _ _ (_ | _) hz9 <;> first | (simp; done) | (simp at hz9; done)) | (refine And.intro ?_ ?_) | (simp only [Post.block_ret, Post.block_exit, Post.block_normal, Post.block_pan, Post.seq_ret, Post.seq_exit, Post.seq_normal, Post.seq_pan]; try simp [hk0,hll,hek,h3,h4,hB,hC,u8sOf_u8l,u8len]))
                      · exact ⟨by decide, rfl, rfl⟩
                      repeat (first | (refine T_seqk fun K hK => ?_) | (refine T_reg tOK rfl ?_; simp [hfl,hwk,u8sOf_u8l,u8len]) | (refine T_ret ?_; try simp) | (refine T_skip ?_; try simp) | (refine T_blockk fun K hK => ?_) | apply_assumption -exfalso -symm | (rw [afterRF_ret]; simp [hfl,hwk,u8sOf_u8l,u8len]) | (refine T_exit ?_; try simp) | (refine T_cond_t ?_ ?_; · (simp; done)) | (refine T_cond_f ?_ ?_; · (simp; done)) | (rintro _ _ (_ | _) hz9 <;> first | (simp; done) | (simp at hz9; done)) | (refine And.intro ?_ ?_) | (simp only [Post.block_ret, Post.block_exit, Post.block_normal, Post.block_pan, Post.seq_ret, Post.seq_exit, Post.seq_normal, Post.seq_pan]; try simp [hfl,hwk,u8sOf_u8l,u8len]))
                      refine TL_fall 2 [1, 2, 7, 8, 9, 10, 11] (Nat.zero_le _) ?_ ?_ ?_ ?_ (hih f.b true (fun _ => hsure f rfl hfl))
                      · simp [Fr.keep]
                      · simp [belowFr, belowB]
                      · rfl
                      · simp only [belowStore, belowBlk, dkM, List.all_cons, encFs_below]; simp [dkBj, belowBlk, belowL, belowB]
                    | false =>
                      repeat (first | (refine T_seqk fun K hK => ?_) | (refine T_reg tOK rfl ?_; simp [hk0,hll,hek,hwk,h3,h4,hB,hC,h9]) | (refine T_ret ?_; try simp) | (refine T_skip ?_; try simp) | (refine T_blockk fun K hK => ?_) | apply_assumption -exfalso -symm | (rw [afterRF_ret]; simp [hk0,hll,hek,hwk,h3,h4,hB,hC,h9]) | (refine T_exit ?_; try simp) | (refine T_cond_t ?_ ?_; · (simp; done)) | (refine T_cond_f ?_ ?_; · (simp; done)) | (rintro _ _ (_ | _) hz9 <;> first | (simp; done) | (simp at hz9; done)) | (refine And.intro ?_ ?_) | (simp only [Post.block_ret, Post.block_exit, Post.block_normal, Post.block_pan, Post.seq_ret, Post.seq_exit, Post.seq_normal, Post.seq_pan]; try simp [hk0,hll,hek,hwk,h3,h4,hB,hC,h9]))
                      refine TL_fall 2 [1, 2, 7, 8, 9, 10, 11] (Nat.zero_le _) ?_ ?_ ?_ ?_ (hih last had hskip)
                      · simp [Fr.keep]
                      · simp [belowFr, belowB]
                      · rfl
                      · simp only [belowStore, belowBlk, dkM, List.all_cons, encFs_below]; simp [dkBj, belowBlk, belowL, belowB]
                  | false =>
                    repeat (first | (refine T_seqk fun K hK => ?_) | (refine T_reg tOK rfl ?_; simp [hk0,hll,hek,hwk,h3,h4,hB,h9]) | (refine T_ret ?_; try simp) | (refine T_skip ?_; try simp) | (refine T_blockk fun K hK => ?_) | apply_assumption -exfalso -symm | (rw [afterRF_ret]; simp [hk0,hll,hek,hwk,h3,h4,hB,h9]) | (refine T_exit ?_; try simp) | (refine T_cond_t ?_ ?_; · (simp; done)) | (refine T_cond_f ?_ ?_; · (simp; done)) | (rintro _ _ (_ | _) hz9 <;> first | (simp; done) | (simp at hz9; done)) | (refine And.intro ?_ ?_) | (simp only [Post.block_ret, Post.block_exit, Post.block_normal, Post.block_pan, Post.seq_ret, Post.seq_exit, Post.seq_normal, Post.seq_pan]; try simp [hk0,hll,hek,hwk,h3,h4,hB,h9]))
                    refine TL_fall 2 [1, 2, 7, 8, 9, 10, 11] (Nat.zero_le _) ?_ ?_ ?_ ?_ (hih last had hskip)
                    · simp [Fr.keep]
                    · simp [belowFr, belowB]
                    · rfl
                    · simp only [belowStore, belowBlk, dkM, List.all_cons, encFs_below]; simp [dkBj, belowBlk, belowL, belowB]
                | false =>
                  cases h9 : o.what == 9 with
                  | true =>
                    cases hgs : got.isSome with
                    | true =>
                      obtain ⟨f, rfl, hfl⟩ := hN (by simp [newly, h3,h4,h9,hgs])
                      repeat (first | (refine T_seqk fun K hK => ?_) | (refine T_reg tOK rfl ?_; simp [hk0,hll,hek,h3,h4,h9,hgs,u8sOf_u8l,u8len]) | (refine T_ret ?_; try simp) | (refine T_skip ?_; try simp) | (refine T_blockk fun K hK => ?_) | apply_assumption -exfalso -symm | (rw [afterRF_ret]; simp [hk0,hll,hek,h3,h4,h9,hgs,u8sOf_u8l,u8len]) | (refine T_exit ?_; try simp) | (refine T_cond_t ?_ ?_; · (simp; done)) | (refine T_cond_f ?_ ?_; · (simp; done)) | (rintro _ _ (_ | _) hz9 <;> first | (simp; done) | (simp at hz9; done)) | (refine And.intro ?_ ?_) | (simp only [Post.block_ret, Post.block_exit, Post.block_normal, Post.block_pan, Post.seq_ret, Post.seq_exit, Post.seq_normal, Post.seq_pan]; try simp [hk0,hll,hek,h3,h4,h9,hgs,u8sOf_u8l,u8len]))
                      · exact ⟨by decide, rfl, rfl⟩
                      repeat (first | (refine T_seqk fun K hK => ?_) | (refine T_reg tOK rfl ?_; simp [hfl,hwk,u8sOf_u8l,u8len]) | (refine T_ret ?_; try simp) | (refine T_skip ?_; try simp) | (refine T_blockk fun K hK => ?_) | apply_assumption -exfalso -symm | (rw [afterRF_ret]; simp [hfl,hwk,u8sOf_u8l,u8len]) | (refine T_exit ?_; try simp) | (refine T_cond_t ?_ ?_; · (simp; done)) | (refine T_cond_f ?_ ?_; · (simp; done)) | (rintro _ _ (_ | _) hz9 <;> first | (simp; done) | (simp at hz9; done)) | (refine And.intro ?_ ?_) | (simp only [Post.block_ret, Post.block_exit, Post.block_normal, Post.block_pan, Post.seq_ret, Post.seq_exit, Post.seq_normal, Post.seq_pan]; try simp [hfl,hwk,u8sOf_u8l,u8len]))
                      refine TL_fall 2 [1, 2, 7, 8, 9, 10, 11] (Nat.zero_le _) ?_ ?_ ?_ ?_ (hih f.b true (fun _ => hsure f rfl hfl))
                      · simp [Fr.keep]
                      · simp [belowFr, belowB]
                      · rfl
                      · simp only [belowStore, belowBlk, dkM, List.all_cons, encFs_below]; simp [dkBj, belowBlk, belowL, belowB]
                    | false =>
                      repeat (first | (refine T_seqk fun K hK => ?_) | (refine T_reg tOK rfl ?_; simp [hk0,hll,hek,hwk,h3,h4,h9,hgs]) | (refine T_ret ?_; try simp) | (refine T_skip ?_; try simp) | (refine T_blockk fun K hK => ?_) | apply_assumption -exfalso -symm | (rw [afterRF_ret]; simp [hk0,hll,hek,hwk,h3,h4,h9,hgs]) | (refine T_exit ?_; try simp) | (refine T_cond_t ?_ ?_; · (simp; done)) | (refine T_cond_f ?_ ?_; · (simp; done)) | (rintro _ _ (_ | _) hz9 <;> first | (simp; done) | (simp at hz9; done)) | (refine And.intro ?_ ?_) | (simp only [Post.block_ret, Post.block_exit, Post.block_normal, Post.block_pan, Post.seq_ret, Post.seq_exit, Post.seq_normal, Post.seq_pan]; try simp [hk0,hll,hek,hwk,h3,h4,h9,hgs]))
                      refine TL_fall 2 [1, 2, 7, 8, 9, 10, 11] (Nat.zero_le _) ?_ ?_ ?_ ?_ (hih last had hskip)
                      · simp [Fr.keep]
                      · simp [belowFr, belowB]
                      · rfl
                      · simp only [belowStore, belowBlk, dkM, List.all_cons, encFs_below]; simp [dkBj, belowBlk, belowL, belowB]
                  | false =>
                    repeat (first | (refine T_seqk fun K hK => ?_) | (refine T_reg tOK rfl ?_; simp [hk0,hll,hek,hwk,h3,h4,h9]) | (refine T_ret ?_; try simp) | (refine T_skip ?_; try simp) | (refine T_blockk fun K hK => ?_) | apply_assumption -exfalso -symm | (rw [afterRF_ret]; simp [hk0,hll,hek,hwk,h3,h4,h9]) | (refine T_exit ?_; try simp) | (refine T_cond_t ?_ ?_; · (simp; done)) | (refine T_cond_f ?_ ?_; · (simp; done)) | (rintro _ _ (_ | _) hz9 <;> first | (simp; done) | (simp at hz9; done)) | (refine And.intro ?_ ?_) | (simp only [Post.block_ret, Post.block_exit, Post.block_normal, Post.block_pan, Post.seq_ret, Post.seq_exit, Post.seq_normal, Post.seq_pan]; try simp [hk0,hll,hek,hwk,h3,h4,h9]))
                    refine TL_fall 2 [1, 2, 7, 8, 9, 10, 11] (Nat.zero_le _) ?_ ?_ ?_ ?_ (hih last had hskip)
                    · simp [Fr.keep]
                    · simp [belowFr, belowB]
                    · rfl
                    · simp only [belowStore, belowBlk, dkM, List.all_cons, encFs_below]; simp [dkBj, belowBlk, belowL, belowB]
            clear hK15
            cases had with
            | false =>
              repeat (first | (refine T_seqk fun K hK => ?_) | (refine T_reg tOK rfl ?_; simp) | (refine T_ret ?_; try simp) | (refine T_skip ?_; try simp) | (refine T_blockk fun K hK => ?_) | apply_assumption -exfalso -symm | (rw [afterRF_ret]; simp) | (refine T_exit ?_; try simp) | (refine T_cond_t ?_ ?_; · (simp; done)) | (refine T_cond_f ?_ ?_; · (simp; done)) | (rintro _ _ (_ | _) hz9 <;> first | (simp; done) | (simp at hz9; done)) | (refine And.intro ?_ ?_) | (simp only [Post.block_ret, Post.block_exit, Post.block_normal, Post.block_pan, Post.seq_ret, Post.seq_exit, Post.seq_normal, Post.seq_pan]; try simp))
              exact tail2.down _ rfl rfl rfl rfl rfl rfl rfl rfl rfl rfl rfl
            | true =>
              obtain ⟨f, rfl, g2, g3⟩ := hS' rfl
              have hle : last.length ≤ f.b.length := g2.length_le
              have hlt : decide (f.b.length < last.length) = false := by rw [decide_eq_false_iff_not]; omega
              have ht := take_u8l g2
              repeat (first | (refine T_seqk fun K hK => ?_) | (refine T_reg tOK rfl ?_; simp [u8len,bsz,hle,hlt,ht,u8sOf_u8l,mem_u8l]) | (refine T_ret ?_; try simp) | (refine T_skip ?_; try simp) | (refine T_blockk fun K hK => ?_) | apply_assumption -exfalso -symm | (rw [afterRF_ret]; simp [u8len,bsz,hle,hlt,ht,u8sOf_u8l,mem_u8l]) | (refine T_exit ?_; try simp) | (refine T_cond_t ?_ ?_; · (simp; done)) | (refine T_cond_f ?_ ?_; · (simp; done)) | (rintro _ _ (_ | _) hz9 <;> first | (simp; done) | (simp at hz9; done)) | (refine And.intro ?_ ?_) | (simp only [Post.block_ret, Post.block_exit, Post.block_normal, Post.block_pan, Post.seq_ret, Post.seq_exit, Post.seq_normal, Post.seq_pan]; try simp [u8len,bsz,hle,hlt,ht,u8sOf_u8l,mem_u8l]))
              exact tail2.down _ rfl rfl rfl rfl rfl rfl rfl rfl rfl rfl rfl
          clear hK12
          cases hA : o.what == 5 with
          | true =>
            have hF : (o.what == 6) = false := by simp only [beq_iff_eq] at hA; rw [hA]; rfl
            cases hB : e == 0 with
            | true =>
              cases hC : o.name.toList == nm.toList with
              | true =>
                repeat (first | (refine T_seqk fun K hK => ?_) | (refine T_reg tOK rfl ?_; simp [hk0,hll,hek,hwk,hA,hB,hC]) | (refine T_ret ?_; try simp) | (refine T_skip ?_; try simp) | (refine T_blockk fun K hK => ?_) | apply_assumption -exfalso -symm | (rw [afterRF_ret]; simp [hk0,hll,hek,hwk,hA,hB,hC]) | (refine T_exit ?_; try simp) | (refine T_cond_t ?_ ?_; · (simp; done)) | (refine T_cond_f ?_ ?_; · (simp; done)) | (rintro _ _ (_ | _) hz9 <;> first | (simp; done) | (simp at hz9; done)) | (refine And.intro ?_ ?_) | (simp only [Post.block_ret, Post.block_exit, Post.block_normal, Post.block_pan, Post.seq_ret, Post.seq_exit, Post.seq_normal, Post.seq_pan]; try simp [hk0,hll,hek,hwk,hA,hB,hC]))
                refine TL_fall 2 [1, 2, 7, 8, 9, 10, 11] (Nat.zero_le _) ?_ ?_ ?_ ?_ (hih last false (by simp))
                · simp [Fr.keep]
                · simp [belowFr, belowB]
                · rfl
                · simp only [belowStore, belowBlk, dkM, List.all_cons, encFs_below]; simp [dkBj, belowBlk, belowL, belowB]
              | false =>
                cases hD : o.to.toList == nm.toList with
                | true =>
                  repeat (first | (refine T_seqk fun K hK => ?_) | (refine T_reg tOK rfl ?_; simp [hk0,hll,hek,hwk,hA,hB,hC,hD]) | (refine T_ret ?_; try simp) | (refine T_skip ?_; try simp) | (refine T_blockk fun K hK => ?_) | apply_assumption -exfalso -symm | (rw [afterRF_ret]; simp [hk0,hll,hek,hwk,hA,hB,hC,hD]) | (refine T_exit ?_; try simp) | (refine T_cond_t ?_ ?_; · (simp; done)) | (refine T_cond_f ?_ ?_; · (simp; done)) | (rintro _ _ (_ | _) hz9 <;> first | (simp; done) | (simp at hz9; done)) | (refine And.intro ?_ ?_) | (simp only [Post.block_ret, Post.block_exit, Post.block_normal, Post.block_pan, Post.seq_ret, Post.seq_exit, Post.seq_normal, Post.seq_pan]; try simp [hk0,hll,hek,hwk,hA,hB,hC,hD]))
                  refine TL_fall 2 [1, 2, 7, 8, 9, 10, 11] (Nat.zero_le _) ?_ ?_ ?_ ?_ (hih last false (by simp))
                  · simp [Fr.keep]
                  · simp [belowFr, belowB]
                  · rfl
                  · simp only [belowStore, belowBlk, dkM, List.all_cons, encFs_below]; simp [dkBj, belowBlk, belowL, belowB]
                | false =>
                  have hC' := hC
                  rw [bytes_toList, bytes_toList] at hC'
                  have hD' := hD
                  rw [bytes_toList, bytes_toList] at hD'
                  repeat (first | (refine T_seqk fun K hK => ?_) | (refine T_reg tOK rfl ?_; simp [hk0,hll,hek,hA,hB,hC,hD,hF]) | (refine T_ret ?_; try simp) | (refine T_skip ?_; try simp) | (refine T_blockk fun K hK => ?_) | apply_assumption -exfalso -symm | (rw [afterRF_ret]; simp [hk0,hll,hek,hA,hB,hC,hD,hF]) | (refine T_exit ?_; try simp) | (refine T_cond_t ?_ ?_; · (simp; done)) | (refine T_cond_f ?_ ?_; · (simp; done)) | (rintro _ _ (_ | _) hz9 <;> first | (simp; done) | (simp at hz9; done)) | (refine And.intro ?_ ?_) | (simp only [Post.block_ret, Post.block_exit, Post.block_normal, Post.block_pan, Post.seq_ret, Post.seq_exit, Post.seq_normal, Post.seq_pan]; try simp [hk0,hll,hek,hA,hB,hC,hD,hF]))
                  exact tail.down _ rfl rfl rfl rfl rfl rfl rfl rfl rfl (by unfold lost; rw [hA, hB, hC', hD', hF]; rfl)
            | false =>
              repeat (first | (refine T_seqk fun K hK => ?_) | (refine T_reg tOK rfl ?_; simp [hk0,hll,hek,hA,hB,hF]) | (refine T_ret ?_; try simp) | (refine T_skip ?_; try simp) | (refine T_blockk fun K hK => ?_) | apply_assumption -exfalso -symm | (rw [afterRF_ret]; simp [hk0,hll,hek,hA,hB,hF]) | (refine T_exit ?_; try simp) | (refine T_cond_t ?_ ?_; · (simp; done)) | (refine T_cond_f ?_ ?_; · (simp; done)) | (rintro _ _ (_ | _) hz9 <;> first | (simp; done) | (simp at hz9; done)) | (refine And.intro ?_ ?_) | (simp only [Post.block_ret, Post.block_exit, Post.block_normal, Post.block_pan, Post.seq_ret, Post.seq_exit, Post.seq_normal, Post.seq_pan]; try simp [hk0,hll,hek,hA,hB,hF]))
              exact tail.down _ rfl rfl rfl rfl rfl rfl rfl rfl rfl (by unfold lost; rw [hA, hB, hF]; rfl)
          | false =>
            cases hF : o.what == 6 with
            | true =>
              cases hB : e == 0 with
              | true =>
                cases hC : o.name.toList == nm.toList with
                | true =>
                  repeat (first | (refine T_seqk fun K hK => ?_) | (refine T_reg tOK rfl ?_; simp [hk0,hll,hek,hwk,hA,hF,hB,hC]) | (refine T_ret ?_; try simp) | (refine T_skip ?_; try simp) | (refine T_blockk fun K hK => ?_) | apply_assumption -exfalso -symm | (rw [afterRF_ret]; simp [hk0,hll,hek,hwk,hA,hF,hB,hC]) | (refine T_exit ?_; try simp) | (refine T_cond_t ?_ ?_; · (simp; done)) | (refine T_cond_f ?_ ?_; · (simp; done)) | (rintro _ _ (_ | _) hz9 <;> first | (simp; done) | (simp at hz9; done)) | (refine And.intro ?_ ?_) | (simp only [Post.block_ret, Post.block_exit, Post.block_normal, Post.block_pan, Post.seq_ret, Post.seq_exit, Post.seq_normal, Post.seq_pan]; try simp [hk0,hll,hek,hwk,hA,hF,hB,hC]))
                  refine TL_fall 2 [1, 2, 7, 8, 9, 10, 11] (Nat.zero_le _) ?_ ?_ ?_ ?_ (hih last false (by simp))
                  · simp [Fr.keep]
                  · simp [belowFr, belowB]
                  · rfl
                  · simp only [belowStore, belowBlk, dkM, List.all_cons, encFs_below]; simp [dkBj, belowBlk, belowL, belowB]
                | false =>
                  have hC' := hC
                  rw [bytes_toList, bytes_toList] at hC'
                  repeat (first | (refine T_seqk fun K hK => ?_) | (refine T_reg tOK rfl ?_; simp [hk0,hll,hek,hA,hF,hB,hC]) | (refine T_ret ?_; try simp) | (refine T_skip ?_; try simp) | (refine T_blockk fun K hK => ?_) | apply_assumption -exfalso -symm | (rw [afterRF_ret]; simp [hk0,hll,hek,hA,hF,hB,hC]) | (refine T_exit ?_; try simp) | (refine T_cond_t ?_ ?_; · (simp; done)) | (refine T_cond_f ?_ ?_; · (simp; done)) | (rintro _ _ (_ | _) hz9 <;> first | (simp; done) | (simp at hz9; done)) | (refine And.intro ?_ ?_) | (simp only [Post.block_ret, Post.block_exit, Post.block_normal, Post.block_pan, Post.seq_ret, Post.seq_exit, Post.seq_normal, Post.seq_pan]; try simp [hk0,hll,hek,hA,hF,hB,hC]))
                  exact tail.down _ rfl rfl rfl rfl rfl rfl rfl rfl rfl (by unfold lost; rw [hA, hF, hB, hC']; rfl)
              | false =>
                repeat (first | (refine T_seqk fun K hK => ?_) | (refine T_reg tOK rfl ?_; simp [hk0,hll,hek,hA,hF,hB]) | (refine T_ret ?_; try simp) | (refine T_skip ?_; try simp) | (refine T_blockk fun K hK => ?_) | apply_assumption -exfalso -symm | (rw [afterRF_ret]; simp [hk0,hll,hek,hA,hF,hB]) | (refine T_exit ?_; try simp) | (refine T_cond_t ?_ ?_; · (simp; done)) | (refine T_cond_f ?_ ?_; · (simp; done)) | (rintro _ _ (_ | _) hz9 <;> first | (simp; done) | (simp at hz9; done)) | (refine And.intro ?_ ?_) | (simp only [Post.block_ret, Post.block_exit, Post.block_normal, Post.block_pan, Post.seq_ret, Post.seq_exit, Post.seq_normal, Post.seq_pan]; try simp [hk0,hll,hek,hA,hF,hB]))
                exact tail.down _ rfl rfl rfl rfl rfl rfl rfl rfl rfl (by unfold lost; rw [hA, hF, hB]; rfl)
            | false =>
              repeat (first | (refine T_seqk fun K hK => ?_) | (refine T_reg tOK rfl ?_; simp [hk0,hll,hek,hA,hF]) | (refine T_ret ?_; try simp) | (refine T_skip ?_; try simp) | (refine T_blockk fun K hK => ?_) | apply_assumption -exfalso -symm | (rw [afterRF_ret]; simp [hk0,hll,hek,hA,hF]) | (refine T_exit ?_; try simp) | (refine T_cond_t ?_ ?_; · (simp; done)) | (refine T_cond_f ?_ ?_; · (simp; done)) | (rintro _ _ (_ | _) hz9 <;> first | (simp; done) | (simp at hz9; done)) | (refine And.intro ?_ ?_) | (simp only [Post.block_ret, Post.block_exit, Post.block_normal, Post.block_pan, Post.seq_ret, Post.seq_exit, Post.seq_normal, Post.seq_pan]; try simp [hk0,hll,hek,hA,hF]))
              exact tail.down _ rfl rfl rfl rfl rfl rfl rfl rfl rfl (by unfold lost; rw [hA, hF]; rfl)
end
end Go.Proofs.Ythllcknfidnfaaa
