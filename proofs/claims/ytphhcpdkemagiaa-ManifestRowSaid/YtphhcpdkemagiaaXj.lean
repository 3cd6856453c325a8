/- ManifestRow: the walk. -/
import Derived.Test.YtphhcpdkemagiaaXi
import Derived.Test.YtphhcpdkemagiaaXh
import Derived.Test.YtphhcpdkemagiaaXd
import Derived.Test.YtphhcpdkemagiaaRows
import Derived.ProofKit
section
set_option linter.unusedVariables false
set_option linter.unusedSimpArgs false
set_option maxRecDepth 20000
namespace Go.Proofs.Ytphhcpdkemagiaa
open Go
attribute [local simp] RF_nil RF_cons afterRF_ret nilCmp sop sGuard isCall sCallee Fr.eval Fr.get Fr.put ofConst sLoad sStore sBuiltin Fr.args bodyQ sRes oneOf sBin sInt sUn
attribute [local simp] RD_nil RD_cons noConf clear accAdd Tab.pr Tab.slot foot wid idOf refId Op.operands Call.operands sFieldAddr sNilCheck sLookup keyLit sMapSet sMapDel sLen Store.at Store.new getP setP typeAt fits evalParts sBuildSlice sFill sList sApp sAppend frzRe frz pureB pureL
attribute [local simp] optEval sSlice sIndexAddr xop sClear
def iss (ls : List (List Int)) : List PV := ls.map fun l => .lit (is l)
theorem iss_len (ls : List (List Int)) : (iss ls).length = ls.length := by simp [iss]
theorem iss_get {ls : List (List Int)} {k : Nat} (h : k < ls.length) : (iss ls)[k]? = some (.lit (is ls[k])) := by simp [iss, h]
theorem belowL_is (n : Nat) (l : List Int) : belowL n (is l) = true := belowL_of_pure n _ (pureL_is l)
theorem pureL_iss (ls : List (List Int)) : pureL (iss ls) = true := by
  unfold iss
  exact pureL_map _ (fun l => by show pureB _ = true; simp [pureB, pureL_is]) ls
/-- No list, and the empty list. -/
theorem T_nils {N z : Nat} {c : Code} {Q : Post} {fr fr' : Fr} {σ : Store} (t : Nat) (h1 : ∀ s x, Fr.get fr' s = some x → (s = t ∧ x = .lit [] ∧ Fr.get fr t = some .nils) ∨ Fr.get fr s = some x) (h : T tE N z c Q fr' σ) : T tE N z c Q fr σ := fun cx a ht hn hf =>
  h cx a ht hn ⟨hf.1, fun s x hx => by
    rcases h1 s x hx with ⟨rfl, rfl, h2⟩ | h2
    · obtain ⟨h3, h4⟩ := hf.2 _ _ h2
      exact ⟨h3, V.nils_lit h4⟩
    · exact hf.2 _ _ h2⟩
theorem rowD_below (l : List Int) : belowStore 2 [some (dkM (rowD l)), some (dkBj (rowD l) 0)] = true := by
  have : (encFs (rowD l).files).all (fun q => belowB 2 q.2) = true := encFs_below 2 (rowD l).files
  simp only [belowStore, belowBlk, dkM, List.all_cons, this]; simp [dkBj, belowBlk, belowL, belowB]
section
variable {R : Re → Store → Prop} {ls : List (List Int)}
set_option maxHeartbeats 4000000 in
theorem C_mrow (h : ∀ σ, R (.ret (.bool true)) σ) : C tE 6 [.lit (iss ls)] [] R := by
  have hll := iss_len ls
  have hst : ([some (Blk.mp 9 []), some (Blk.cells 65 0 [PV.agg 65 [i64 3000, PV.map 0, i64 (-1), i64 0]])] : Store) = [some (dkM (rowD [])), some (dkBj (rowD []) 0)] := rfl
  cases h9 : decide (60 < (ls.length : Int)) with
  | true =>
    refine C_bodyk tOK Try.func6 rfl (Nat.le_of_ble_eq_true rfl) fun K hK => ?_; simp
    repeat (first | (refine T_seqk fun K hK => ?_) | (refine T_reg tOK rfl ?_; simp [hll,h9]) | (refine T_ret ?_; try simp) | (refine T_skip ?_; try simp) | (refine T_blockk fun K hK => ?_) | (with_reducible apply_assumption -exfalso -symm) | (rw [afterRF_ret]; simp [hll,h9]) | (refine T_exit ?_; try simp) | (refine T_cond_t ?_ ?_; · (simp; done)) | (refine T_cond_f ?_ ?_; · (simp; done)) | (rintro _ _ (_ | _) hz9 <;> first | (simp; done) | (simp at hz9; done)) | (refine And.intro ?_ ?_) | (simp only [Post.block_ret, Post.block_exit, Post.block_normal, Post.block_pan, Post.seq_ret, Post.seq_exit, Post.seq_normal, Post.seq_pan]; try simp [hll,h9]) | (refine T_loop (TL_round ?_)) | (refine TL_round ?_))
    refine C_mhead ?_
    repeat (first | (rw [afterRF_ret]; simp [hll,h9]) | with_reducible apply_assumption -exfalso -symm)
    repeat (first | (refine T_seqk fun K hK => ?_) | (refine T_reg tOK rfl ?_; simp) | (refine T_ret ?_; try simp) | (refine T_skip ?_; try simp) | (refine T_blockk fun K hK => ?_) | (with_reducible apply_assumption -exfalso -symm) | (rw [afterRF_ret]; simp) | (refine T_exit ?_; try simp) | (refine T_cond_t ?_ ?_; · (simp; done)) | (refine T_cond_f ?_ ?_; · (simp; done)) | (rintro _ _ (_ | _) hz9 <;> first | (simp; done) | (simp at hz9; done)) | (refine And.intro ?_ ?_) | (simp only [Post.block_ret, Post.block_exit, Post.block_normal, Post.block_pan, Post.seq_ret, Post.seq_exit, Post.seq_normal, Post.seq_pan]; try simp) | (refine T_loop (TL_round ?_)) | (refine TL_round ?_))
    refine C_new_ok rfl rfl ?_
    repeat (first | (rw [afterRF_ret]; simp ) | with_reducible apply_assumption -exfalso -symm)
    repeat (first | (refine T_seqk fun K hK => ?_) | (refine T_reg tOK rfl ?_; simp [hll,h9]) | (refine T_ret ?_; try simp) | (refine T_skip ?_; try simp) | (refine T_blockk fun K hK => ?_) | (with_reducible apply_assumption -exfalso -symm) | (rw [afterRF_ret]; simp [hll,h9]) | (refine T_exit ?_; try simp) | (refine T_cond_t ?_ ?_; · (simp; done)) | (refine T_cond_f ?_ ?_; · (simp; done)) | (rintro _ _ (_ | _) hz9 <;> first | (simp; done) | (simp at hz9; done)) | (refine And.intro ?_ ?_) | (simp only [Post.block_ret, Post.block_exit, Post.block_normal, Post.block_pan, Post.seq_ret, Post.seq_exit, Post.seq_normal, Post.seq_pan]; try simp [hll,h9]))
  | false =>
    have hl9 : ls.length ≤ 60 := by simp at h9; omega
    refine C_bodyk tOK Try.func6 rfl (Nat.le_of_ble_eq_true rfl) fun K hK => ?_; simp
    repeat (first | (refine T_seqk fun K hK => ?_) | (refine T_reg tOK rfl ?_; simp [hll,h9]) | (refine T_ret ?_; try simp) | (refine T_skip ?_; try simp) | (refine T_blockk fun K hK => ?_) | (with_reducible apply_assumption -exfalso -symm) | (rw [afterRF_ret]; simp [hll,h9]) | (refine T_exit ?_; try simp) | (refine T_cond_t ?_ ?_; · (simp; done)) | (refine T_cond_f ?_ ?_; · (simp; done)) | (rintro _ _ (_ | _) hz9 <;> first | (simp; done) | (simp at hz9; done)) | (refine And.intro ?_ ?_) | (simp only [Post.block_ret, Post.block_exit, Post.block_normal, Post.block_pan, Post.seq_ret, Post.seq_exit, Post.seq_normal, Post.seq_pan]; try simp [hll,h9]) | (refine T_loop (TL_round ?_)) | (refine TL_round ?_))
    refine C_mhead ?_
    repeat (first | (rw [afterRF_ret]; simp [hll,h9]) | with_reducible apply_assumption -exfalso -symm)
    repeat (first | (refine T_seqk fun K hK => ?_) | (refine T_reg tOK rfl ?_; simp) | (refine T_ret ?_; try simp) | (refine T_skip ?_; try simp) | (refine T_blockk fun K hK => ?_) | (with_reducible apply_assumption -exfalso -symm) | (rw [afterRF_ret]; simp) | (refine T_exit ?_; try simp) | (refine T_cond_t ?_ ?_; · (simp; done)) | (refine T_cond_f ?_ ?_; · (simp; done)) | (rintro _ _ (_ | _) hz9 <;> first | (simp; done) | (simp at hz9; done)) | (refine And.intro ?_ ?_) | (simp only [Post.block_ret, Post.block_exit, Post.block_normal, Post.block_pan, Post.seq_ret, Post.seq_exit, Post.seq_normal, Post.seq_pan]; try simp) | (refine T_loop (TL_round ?_)) | (refine TL_round ?_))
    refine C_new_ok rfl rfl ?_
    repeat (first | (rw [afterRF_ret]; simp ) | with_reducible apply_assumption -exfalso -symm)
    refine T_seqkk [0, 3, 4] [(0, .lit (iss ls)), (3, .bool true), (4, .ptr 1 0 0 [])] [some (dkM (rowD [])), some (dkBj (rowD []) 0)] (fun K hK => ?_) ?_
    · repeat (first | (refine T_seqk fun K hK => ?_) | (refine T_reg tOK rfl ?_; simp [hll,h9,Fr.keep]) | (refine T_ret ?_; try simp) | (refine T_skip ?_; try simp) | (refine T_blockk fun K hK => ?_) | (with_reducible apply_assumption -exfalso -symm) | (rw [afterRF_ret]; simp [hll,h9,Fr.keep]) | (refine T_exit ?_; try simp) | (refine T_cond_t ?_ ?_; · (simp; done)) | (refine T_cond_f ?_ ?_; · (simp; done)) | (rintro _ _ (_ | _) hz9 <;> first | (simp; done) | (simp at hz9; done)) | (refine And.intro ?_ ?_) | (simp only [Post.block_ret, Post.block_exit, Post.block_normal, Post.block_pan, Post.seq_ret, Post.seq_exit, Post.seq_normal, Post.seq_pan]; try simp [hll,h9,Fr.keep]))
    refine T_seqk fun K hK => ?_
    refine T_reg tOK rfl ?_
    simp
    refine hK _ _ ?_
    refine T_nils (fr' := [(0, .lit (iss ls)), (3, .bool true), (4, .ptr 1 0 0 []), (5, .lit (is []))]) 5 ?_ ?_
    · intro s x hx
      simp at hx ⊢
      by_cases e : 5 = s
      · subst e; simp at hx; exact .inl ⟨rfl, hx.symm⟩
      · right
        simp [e]
        simpa [e] using hx
    refine T_seq ?_
    refine T_seq ?_
    refine T_reg tOK rfl ?_
    simp
    refine T_block ?_
    refine T_loop ?_
    refine TL_keep [0, 3, 4, 5, 6] ?_
    simp [Fr.keep]
    refine TL_st ls.length (fun k fr σ => ∃ last, (last = [] ∨ okL last = true) ∧ fr = [(0, .lit (iss ls)), (3, .bool true), (4, .ptr 1 0 0 []), (5, .lit (is last)), (6, i64 k)] ∧ σ = [some (dkM (rowD last)), some (dkBj (rowD last) 0)]) ?_ ?_ ⟨[], .inl rfl, rfl, rfl⟩
    · rintro fr σ ⟨last, hlast, rfl, rfl⟩
      refine TL_round ?_
      repeat (first | (refine T_seqk fun K hK => ?_) | (refine T_reg tOK rfl ?_; simp [hll]) | (refine T_ret ?_; try simp) | (refine T_skip ?_; try simp) | (refine T_blockk fun K hK => ?_) | (with_reducible apply_assumption -exfalso -symm) | (rw [afterRF_ret]; simp [hll]) | (refine T_exit ?_; try simp) | (refine T_cond_t ?_ ?_; · (simp; done)) | (refine T_cond_f ?_ ?_; · (simp; done)) | (rintro _ _ (_ | _) hz9 <;> first | (simp; done) | (simp at hz9; done)) | (refine And.intro ?_ ?_) | (simp only [Post.block_ret, Post.block_exit, Post.block_normal, Post.block_pan, Post.seq_ret, Post.seq_exit, Post.seq_normal, Post.seq_pan]; try simp [hll]))
    · rintro k fr σ hk ⟨last, hlast, rfl, rfl⟩ ih
      replace ih := PLift.up ih
      have hkb : decide (k < ls.length) = true := by simpa using hk
      have hwk : IntKind.i64.wrap ((k : Int) + 1) = ((k + 1 : Nat) : Int) := by rw [IntWalk.i64_in _ (by omega)]; omega
      have ek := iss_get hk
      have lk : k < (iss ls).length := by omega
      have ek' := get_of ek lk
      have hkl := is_len ls[k]
      have hdk : DkAt [some (dkM (rowD last)), some (dkBj (rowD last) 0)] 1 0 (rowD last) := ⟨by decide, rfl, rfl⟩
      have hI := row_inv hlast
      cases hnk : decide (900 < (ls[k].length : Int)) with
      | true =>
        refine TL_round ?_
        repeat (first | (refine T_seqk fun K hK => ?_) | (refine T_reg tOK rfl ?_; simp [hll,hkb,ek,ek',lk,hkl,hnk]) | (refine T_ret ?_; try simp) | (refine T_skip ?_; try simp) | (refine T_blockk fun K hK => ?_) | (with_reducible apply_assumption -exfalso -symm) | (rw [afterRF_ret]; simp [hll,hkb,ek,ek',lk,hkl,hnk]) | (refine T_exit ?_; try simp) | (refine T_cond_t ?_ ?_; · (simp; done)) | (refine T_cond_f ?_ ?_; · (simp; done)) | (rintro _ _ (_ | _) hz9 <;> first | (simp; done) | (simp at hz9; done)) | (refine And.intro ?_ ?_) | (simp only [Post.block_ret, Post.block_exit, Post.block_normal, Post.block_pan, Post.seq_ret, Post.seq_exit, Post.seq_normal, Post.seq_pan]; try simp [hll,hkb,ek,ek',lk,hkl,hnk]))
      | false =>
        have hnk9 : ls[k].length ≤ 900 := by simp at hnk; omega
        refine TL_round ?_
        repeat (first | (refine T_seqk fun K hK => ?_) | (refine T_reg tOK rfl ?_; simp [hll,hkb,ek,ek',lk,hkl,hnk]) | (refine T_ret ?_; try simp) | (refine T_skip ?_; try simp) | (refine T_blockk fun K hK => ?_) | (with_reducible apply_assumption -exfalso -symm) | (rw [afterRF_ret]; simp [hll,hkb,ek,ek',lk,hkl,hnk]) | (refine T_exit ?_; try simp) | (refine T_cond_t ?_ ?_; · (simp; done)) | (refine T_cond_f ?_ ?_; · (simp; done)) | (rintro _ _ (_ | _) hz9 <;> first | (simp; done) | (simp at hz9; done)) | (refine And.intro ?_ ?_) | (simp only [Post.block_ret, Post.block_exit, Post.block_normal, Post.block_pan, Post.seq_ret, Post.seq_exit, Post.seq_normal, Post.seq_pan]; try simp [hll,hkb,ek,ek',lk,hkl,hnk]))
        refine C_swap_at hdk hI (by omega) ?_
        cases hok : okL ls[k] with
        | false =>
          rw [row_bad hok]
          simp [dkPut]
          repeat (first | (rw [afterRF_ret]; simp ) | with_reducible apply_assumption -exfalso -symm)
          repeat (first | (refine T_seqk fun K hK => ?_) | (refine T_reg tOK rfl ?_; simp [hll,hkb,ek,ek',lk,hkl,hwk]) | (refine T_ret ?_; try simp) | (refine T_skip ?_; try simp) | (refine T_blockk fun K hK => ?_) | (with_reducible apply_assumption -exfalso -symm) | (rw [afterRF_ret]; simp [hll,hkb,ek,ek',lk,hkl,hwk]) | (refine T_exit ?_; try simp) | (refine T_cond_t ?_ ?_; · (simp; done)) | (refine T_cond_f ?_ ?_; · (simp; done)) | (rintro _ _ (_ | _) hz9 <;> first | (simp; done) | (simp at hz9; done)) | (refine And.intro ?_ ?_) | (simp only [Post.block_ret, Post.block_exit, Post.block_normal, Post.block_pan, Post.seq_ret, Post.seq_exit, Post.seq_normal, Post.seq_pan]; try simp [hll,hkb,ek,ek',lk,hkl,hwk]))
          refine C_right (by omega) ?_
          rw [hok]
          repeat (first | (rw [afterRF_ret]; simp ) | with_reducible apply_assumption -exfalso -symm)
          repeat (first | (refine T_seqk fun K hK => ?_) | (refine T_reg tOK rfl ?_; simp [hll,hkb,ek,ek',lk,hkl,hwk]) | (refine T_ret ?_; try simp) | (refine T_skip ?_; try simp) | (refine T_blockk fun K hK => ?_) | (with_reducible apply_assumption -exfalso -symm) | (rw [afterRF_ret]; simp [hll,hkb,ek,ek',lk,hkl,hwk]) | (refine T_exit ?_; try simp) | (refine T_cond_t ?_ ?_; · (simp; done)) | (refine T_cond_f ?_ ?_; · (simp; done)) | (rintro _ _ (_ | _) hz9 <;> first | (simp; done) | (simp at hz9; done)) | (refine And.intro ?_ ?_) | (simp only [Post.block_ret, Post.block_exit, Post.block_normal, Post.block_pan, Post.seq_ret, Post.seq_exit, Post.seq_normal, Post.seq_pan]; try simp [hll,hkb,ek,ek',lk,hkl,hwk]))
          rcases hlast with rfl | hlo
          · have hn0 : (is []).length = 0 := rfl
            refine C_load_at (i := 1) (j := 0) (d := rowD []) ⟨by decide, rfl, rfl⟩ (row_inv (.inl rfl)) ?_
            rw [row_load0]
            repeat (first | (rw [afterRF_ret]; simp ) | with_reducible apply_assumption -exfalso -symm)
            repeat (first | (refine T_seqk fun K hK => ?_) | (refine T_reg tOK rfl ?_; simp [hll,hkb,ek,ek',lk,hkl,hwk,hn0]) | (refine T_ret ?_; try simp) | (refine T_skip ?_; try simp) | (refine T_blockk fun K hK => ?_) | (with_reducible apply_assumption -exfalso -symm) | (rw [afterRF_ret]; simp [hll,hkb,ek,ek',lk,hkl,hwk,hn0]) | (refine T_exit ?_; try simp) | (refine T_cond_t ?_ ?_; · (simp; done)) | (refine T_cond_f ?_ ?_; · (simp; done)) | (rintro _ _ (_ | _) hz9 <;> first | (simp; done) | (simp at hz9; done)) | (refine And.intro ?_ ?_) | (simp only [Post.block_ret, Post.block_exit, Post.block_normal, Post.block_pan, Post.seq_ret, Post.seq_exit, Post.seq_normal, Post.seq_pan]; try simp [hll,hkb,ek,ek',lk,hkl,hwk,hn0]))
            refine C_samei (by simp) (by simp) ?_
            rw [show (([] : List Int) == []) = true from rfl]
            repeat (first | (rw [afterRF_ret]; simp [hll,hkb,ek,ek',lk,hkl,hwk,hn0]) | with_reducible apply_assumption -exfalso -symm)
            repeat (first | (refine T_seqk fun K hK => ?_) | (refine T_reg tOK rfl ?_; simp [hll,hkb,ek,ek',lk,hkl,hwk,hn0]) | (refine T_ret ?_; try simp) | (refine T_skip ?_; try simp) | (refine T_blockk fun K hK => ?_) | (with_reducible apply_assumption -exfalso -symm) | (rw [afterRF_ret]; simp [hll,hkb,ek,ek',lk,hkl,hwk,hn0]) | (refine T_exit ?_; try simp) | (refine T_cond_t ?_ ?_; · (simp; done)) | (refine T_cond_f ?_ ?_; · (simp; done)) | (rintro _ _ (_ | _) hz9 <;> first | (simp; done) | (simp at hz9; done)) | (refine And.intro ?_ ?_) | (simp only [Post.block_ret, Post.block_exit, Post.block_normal, Post.block_pan, Post.seq_ret, Post.seq_exit, Post.seq_normal, Post.seq_pan]; try simp [hll,hkb,ek,ek',lk,hkl,hwk,hn0]))
            refine TL_fall (fr' := [(0, .lit (iss ls)), (3, .bool true), (4, .ptr 1 0 0 []), (5, .lit (is [])), (6, i64 ((k + 1 : Nat) : Int))]) (σ' := [some (dkM (rowD [])), some (dkBj (rowD []) 0)]) 2 [0, 3, 4, 5, 6] (by simp) (by simp [Fr.keep]) (by simp [belowFr, belowB, belowL_of_pure _ _ (pureL_is []), belowL_of_pure _ _ (pureL_iss ls)]) (by simp) ?_ (ih.down _ _ ⟨[], .inl rfl, rfl, rfl⟩)
            exact rowD_below _
          · skip
            have hbl : (last).length ≤ 40 := (okL_facts hlo).2.1
            have hbp : 0 < (last).length := (okL_facts hlo).1
            have hbd : decide (0 < (last).length) = true := by simp; omega
            have hnl := is_len (last)
            have hne : ¬ last = [] := fun e => by rw [e] at hbp; simp at hbp
            refine C_load_at (i := 1) (j := 0) (d := rowD (last)) ⟨by decide, rfl, rfl⟩ (row_inv (.inr hlo)) ?_
            rw [row_load hlo]
            repeat (first | (rw [afterRF_ret]; simp ) | with_reducible apply_assumption -exfalso -symm)
            repeat (first | (refine T_seqk fun K hK => ?_) | (refine T_reg tOK rfl ?_; simp [hll,hkb,ek,ek',lk,hkl,hwk,hnl,hbd]) | (refine T_ret ?_; try simp) | (refine T_skip ?_; try simp) | (refine T_blockk fun K hK => ?_) | (with_reducible apply_assumption -exfalso -symm) | (rw [afterRF_ret]; simp [hll,hkb,ek,ek',lk,hkl,hwk,hnl,hbd]) | (refine T_exit ?_; try simp) | (refine T_cond_t ?_ ?_; · (simp; done)) | (refine T_cond_f ?_ ?_; · (simp; done)) | (rintro _ _ (_ | _) hz9 <;> first | (simp; done) | (simp at hz9; done)) | (refine And.intro ?_ ?_) | (simp only [Post.block_ret, Post.block_exit, Post.block_normal, Post.block_pan, Post.seq_ret, Post.seq_exit, Post.seq_normal, Post.seq_pan]; try simp [hll,hkb,ek,ek',lk,hkl,hwk,hnl,hbd]))
            refine C_samei (by omega) (by omega) ?_
            rw [show (last == last) = true by simp]
            repeat (first | (rw [afterRF_ret]; simp [hll,hkb,ek,ek',lk,hkl,hwk,hnl,hbd,hne]) | with_reducible apply_assumption -exfalso -symm)
            repeat (first | (refine T_seqk fun K hK => ?_) | (refine T_reg tOK rfl ?_; simp [hll,hkb,ek,ek',lk,hkl,hwk,hnl,hbd,hne]) | (refine T_ret ?_; try simp) | (refine T_skip ?_; try simp) | (refine T_blockk fun K hK => ?_) | (with_reducible apply_assumption -exfalso -symm) | (rw [afterRF_ret]; simp [hll,hkb,ek,ek',lk,hkl,hwk,hnl,hbd,hne]) | (refine T_exit ?_; try simp) | (refine T_cond_t ?_ ?_; · (simp; done)) | (refine T_cond_f ?_ ?_; · (simp; done)) | (rintro _ _ (_ | _) hz9 <;> first | (simp; done) | (simp at hz9; done)) | (refine And.intro ?_ ?_) | (simp only [Post.block_ret, Post.block_exit, Post.block_normal, Post.block_pan, Post.seq_ret, Post.seq_exit, Post.seq_normal, Post.seq_pan]; try simp [hll,hkb,ek,ek',lk,hkl,hwk,hnl,hbd,hne]))
            refine C_list_at (i := 1) (j := 0) (d := rowD (last)) ⟨by decide, rfl, rfl⟩ (row_inv (.inr hlo)) ?_
            rw [row_names hlo]
            repeat (first | (rw [afterRF_ret]; simp [hll,hkb,ek,ek',lk,hkl,hwk,hnl,hbd,hne]) | with_reducible apply_assumption -exfalso -symm)
            repeat (first | (refine T_seqk fun K hK => ?_) | (refine T_reg tOK rfl ?_; simp [hll,hkb,ek,ek',lk,hkl,hwk,hnl,hbd,hne]) | (refine T_ret ?_; try simp) | (refine T_skip ?_; try simp) | (refine T_blockk fun K hK => ?_) | (with_reducible apply_assumption -exfalso -symm) | (rw [afterRF_ret]; simp [hll,hkb,ek,ek',lk,hkl,hwk,hnl,hbd,hne]) | (refine T_exit ?_; try simp) | (refine T_cond_t ?_ ?_; · (simp; done)) | (refine T_cond_f ?_ ?_; · (simp; done)) | (rintro _ _ (_ | _) hz9 <;> first | (simp; done) | (simp at hz9; done)) | (refine And.intro ?_ ?_) | (simp only [Post.block_ret, Post.block_exit, Post.block_normal, Post.block_pan, Post.seq_ret, Post.seq_exit, Post.seq_normal, Post.seq_pan]; try simp [hll,hkb,ek,ek',lk,hkl,hwk,hnl,hbd,hne]))
            refine C_lend tOK (args' := [.lit (strs [filN.data.toList]), .lit (strs [filN.data.toList])]) rfl (C_sames (by decide) (by decide) ⟨rfl, ?_⟩)
            rw [show (([filN.data.toList] : List (List UInt8)) == [filN.data.toList]) = true by decide]
            repeat (first | (rw [afterRF_ret]; simp [hll,hkb,ek,ek',lk,hkl,hwk,hnl,hbd,hne]) | with_reducible apply_assumption -exfalso -symm)
            repeat (first | (refine T_seqk fun K hK => ?_) | (refine T_reg tOK rfl ?_; simp [hll,hkb,ek,ek',lk,hkl,hwk,hnl,hbd,hne]) | (refine T_ret ?_; try simp) | (refine T_skip ?_; try simp) | (refine T_blockk fun K hK => ?_) | (with_reducible apply_assumption -exfalso -symm) | (rw [afterRF_ret]; simp [hll,hkb,ek,ek',lk,hkl,hwk,hnl,hbd,hne]) | (refine T_exit ?_; try simp) | (refine T_cond_t ?_ ?_; · (simp; done)) | (refine T_cond_f ?_ ?_; · (simp; done)) | (rintro _ _ (_ | _) hz9 <;> first | (simp; done) | (simp at hz9; done)) | (refine And.intro ?_ ?_) | (simp only [Post.block_ret, Post.block_exit, Post.block_normal, Post.block_pan, Post.seq_ret, Post.seq_exit, Post.seq_normal, Post.seq_pan]; try simp [hll,hkb,ek,ek',lk,hkl,hwk,hnl,hbd,hne]))
            refine TL_fall (fr' := [(0, .lit (iss ls)), (3, .bool true), (4, .ptr 1 0 0 []), (5, .lit (is (last))), (6, i64 ((k + 1 : Nat) : Int))]) (σ' := [some (dkM (rowD (last))), some (dkBj (rowD (last)) 0)]) 2 [0, 3, 4, 5, 6] (by simp) (by simp [Fr.keep]) (by simp [belowFr, belowB, belowL_of_pure _ _ (pureL_is (last)), belowL_of_pure _ _ (pureL_iss ls)]) (by simp) ?_ (ih.down _ _ ⟨last, .inr hlo, rfl, rfl⟩)
            exact rowD_below _
        | true =>
          rw [row_ok hok]
          simp [dkPut]
          repeat (first | (rw [afterRF_ret]; simp ) | with_reducible apply_assumption -exfalso -symm)
          repeat (first | (refine T_seqk fun K hK => ?_) | (refine T_reg tOK rfl ?_; simp [hll,hkb,ek,ek',lk,hkl,hwk]) | (refine T_ret ?_; try simp) | (refine T_skip ?_; try simp) | (refine T_blockk fun K hK => ?_) | (with_reducible apply_assumption -exfalso -symm) | (rw [afterRF_ret]; simp [hll,hkb,ek,ek',lk,hkl,hwk]) | (refine T_exit ?_; try simp) | (refine T_cond_t ?_ ?_; · (simp; done)) | (refine T_cond_f ?_ ?_; · (simp; done)) | (rintro _ _ (_ | _) hz9 <;> first | (simp; done) | (simp at hz9; done)) | (refine And.intro ?_ ?_) | (simp only [Post.block_ret, Post.block_exit, Post.block_normal, Post.block_pan, Post.seq_ret, Post.seq_exit, Post.seq_normal, Post.seq_pan]; try simp [hll,hkb,ek,ek',lk,hkl,hwk]))
          refine C_right (by omega) ?_
          rw [hok]
          repeat (first | (rw [afterRF_ret]; simp ) | with_reducible apply_assumption -exfalso -symm)
          repeat (first | (refine T_seqk fun K hK => ?_) | (refine T_reg tOK rfl ?_; simp [hll,hkb,ek,ek',lk,hkl,hwk]) | (refine T_ret ?_; try simp) | (refine T_skip ?_; try simp) | (refine T_blockk fun K hK => ?_) | (with_reducible apply_assumption -exfalso -symm) | (rw [afterRF_ret]; simp [hll,hkb,ek,ek',lk,hkl,hwk]) | (refine T_exit ?_; try simp) | (refine T_cond_t ?_ ?_; · (simp; done)) | (refine T_cond_f ?_ ?_; · (simp; done)) | (rintro _ _ (_ | _) hz9 <;> first | (simp; done) | (simp at hz9; done)) | (refine And.intro ?_ ?_) | (simp only [Post.block_ret, Post.block_exit, Post.block_normal, Post.block_pan, Post.seq_ret, Post.seq_exit, Post.seq_normal, Post.seq_pan]; try simp [hll,hkb,ek,ek',lk,hkl,hwk]))
          have hbl : (ls[k]).length ≤ 40 := (okL_facts hok).2.1
          have hbp : 0 < (ls[k]).length := (okL_facts hok).1
          have hbd : decide (0 < (ls[k]).length) = true := by simp; omega
          have hnl := is_len (ls[k])
          have hne : ¬ ls[k] = [] := fun e => by rw [e] at hbp; simp at hbp
          refine C_load_at (i := 1) (j := 0) (d := rowD (ls[k])) ⟨by decide, rfl, rfl⟩ (row_inv (.inr hok)) ?_
          rw [row_load hok]
          repeat (first | (rw [afterRF_ret]; simp ) | with_reducible apply_assumption -exfalso -symm)
          repeat (first | (refine T_seqk fun K hK => ?_) | (refine T_reg tOK rfl ?_; simp [hll,hkb,ek,ek',lk,hkl,hwk,hnl,hbd]) | (refine T_ret ?_; try simp) | (refine T_skip ?_; try simp) | (refine T_blockk fun K hK => ?_) | (with_reducible apply_assumption -exfalso -symm) | (rw [afterRF_ret]; simp [hll,hkb,ek,ek',lk,hkl,hwk,hnl,hbd]) | (refine T_exit ?_; try simp) | (refine T_cond_t ?_ ?_; · (simp; done)) | (refine T_cond_f ?_ ?_; · (simp; done)) | (rintro _ _ (_ | _) hz9 <;> first | (simp; done) | (simp at hz9; done)) | (refine And.intro ?_ ?_) | (simp only [Post.block_ret, Post.block_exit, Post.block_normal, Post.block_pan, Post.seq_ret, Post.seq_exit, Post.seq_normal, Post.seq_pan]; try simp [hll,hkb,ek,ek',lk,hkl,hwk,hnl,hbd]))
          refine C_samei (by omega) (by omega) ?_
          rw [show (ls[k] == ls[k]) = true by simp]
          repeat (first | (rw [afterRF_ret]; simp [hll,hkb,ek,ek',lk,hkl,hwk,hnl,hbd,hne]) | with_reducible apply_assumption -exfalso -symm)
          repeat (first | (refine T_seqk fun K hK => ?_) | (refine T_reg tOK rfl ?_; simp [hll,hkb,ek,ek',lk,hkl,hwk,hnl,hbd,hne]) | (refine T_ret ?_; try simp) | (refine T_skip ?_; try simp) | (refine T_blockk fun K hK => ?_) | (with_reducible apply_assumption -exfalso -symm) | (rw [afterRF_ret]; simp [hll,hkb,ek,ek',lk,hkl,hwk,hnl,hbd,hne]) | (refine T_exit ?_; try simp) | (refine T_cond_t ?_ ?_; · (simp; done)) | (refine T_cond_f ?_ ?_; · (simp; done)) | (rintro _ _ (_ | _) hz9 <;> first | (simp; done) | (simp at hz9; done)) | (refine And.intro ?_ ?_) | (simp only [Post.block_ret, Post.block_exit, Post.block_normal, Post.block_pan, Post.seq_ret, Post.seq_exit, Post.seq_normal, Post.seq_pan]; try simp [hll,hkb,ek,ek',lk,hkl,hwk,hnl,hbd,hne]))
          refine C_list_at (i := 1) (j := 0) (d := rowD (ls[k])) ⟨by decide, rfl, rfl⟩ (row_inv (.inr hok)) ?_
          rw [row_names hok]
          repeat (first | (rw [afterRF_ret]; simp [hll,hkb,ek,ek',lk,hkl,hwk,hnl,hbd,hne]) | with_reducible apply_assumption -exfalso -symm)
          repeat (first | (refine T_seqk fun K hK => ?_) | (refine T_reg tOK rfl ?_; simp [hll,hkb,ek,ek',lk,hkl,hwk,hnl,hbd,hne]) | (refine T_ret ?_; try simp) | (refine T_skip ?_; try simp) | (refine T_blockk fun K hK => ?_) | (with_reducible apply_assumption -exfalso -symm) | (rw [afterRF_ret]; simp [hll,hkb,ek,ek',lk,hkl,hwk,hnl,hbd,hne]) | (refine T_exit ?_; try simp) | (refine T_cond_t ?_ ?_; · (simp; done)) | (refine T_cond_f ?_ ?_; · (simp; done)) | (rintro _ _ (_ | _) hz9 <;> first | (simp; done) | (simp at hz9; done)) | (refine And.intro ?_ ?_) | (simp only [Post.block_ret, Post.block_exit, Post.block_normal, Post.block_pan, Post.seq_ret, Post.seq_exit, Post.seq_normal, Post.seq_pan]; try simp [hll,hkb,ek,ek',lk,hkl,hwk,hnl,hbd,hne]))
          refine C_lend tOK (args' := [.lit (strs [filN.data.toList]), .lit (strs [filN.data.toList])]) rfl (C_sames (by decide) (by decide) ⟨rfl, ?_⟩)
          rw [show (([filN.data.toList] : List (List UInt8)) == [filN.data.toList]) = true by decide]
          repeat (first | (rw [afterRF_ret]; simp [hll,hkb,ek,ek',lk,hkl,hwk,hnl,hbd,hne]) | with_reducible apply_assumption -exfalso -symm)
          repeat (first | (refine T_seqk fun K hK => ?_) | (refine T_reg tOK rfl ?_; simp [hll,hkb,ek,ek',lk,hkl,hwk,hnl,hbd,hne]) | (refine T_ret ?_; try simp) | (refine T_skip ?_; try simp) | (refine T_blockk fun K hK => ?_) | (with_reducible apply_assumption -exfalso -symm) | (rw [afterRF_ret]; simp [hll,hkb,ek,ek',lk,hkl,hwk,hnl,hbd,hne]) | (refine T_exit ?_; try simp) | (refine T_cond_t ?_ ?_; · (simp; done)) | (refine T_cond_f ?_ ?_; · (simp; done)) | (rintro _ _ (_ | _) hz9 <;> first | (simp; done) | (simp at hz9; done)) | (refine And.intro ?_ ?_) | (simp only [Post.block_ret, Post.block_exit, Post.block_normal, Post.block_pan, Post.seq_ret, Post.seq_exit, Post.seq_normal, Post.seq_pan]; try simp [hll,hkb,ek,ek',lk,hkl,hwk,hnl,hbd,hne]))
          refine TL_fall (fr' := [(0, .lit (iss ls)), (3, .bool true), (4, .ptr 1 0 0 []), (5, .lit (is (ls[k]))), (6, i64 ((k + 1 : Nat) : Int))]) (σ' := [some (dkM (rowD (ls[k]))), some (dkBj (rowD (ls[k])) 0)]) 2 [0, 3, 4, 5, 6] (by simp) (by simp [Fr.keep]) (by simp [belowFr, belowB, belowL_of_pure _ _ (pureL_is (ls[k])), belowL_of_pure _ _ (pureL_iss ls)]) (by simp) ?_ (ih.down _ _ ⟨ls[k], .inr hok, rfl, rfl⟩)
          exact rowD_below _
end
end Go.Proofs.Ytphhcpdkemagiaa
end
section
/- From the logic to the statements: what is handed in, and what is asked of the end. -/
set_option linter.unusedVariables false
set_option linter.unusedSimpArgs false
set_option maxRecDepth 4000
namespace Go.Proofs.Ytphhcpdkemagiaa
open Go Go.ChangeShapes Go.RowKit

theorem Try.own : ownKnob Try.prog.godebug = none := by kernel_rfl
theorem Try.laidOut : laidOutB Try.prog = true := by kernel_rfl

section
variable {H : Type} {enc : TypeId × Value → H}
/-- An argument, as a value of the logic's. -/
theorem arg_V {W : World} {sp : Nat → Bool} {held : Bool} {t : TypeId} {v : Value} {d : DataW H} {ps : List MemPlace} {base : Nat} (n : Nat) (hs : simpleT tE n t = true) (hst : ∀ fs, tE.P.underlying t ≠ some (.struct fs)) (harr : ∀ m e, tE.P.underlying t ≠ some (.array m e))
    (hok : Value.okWide tE.P W .any base t v) (h : DataW.Trod enc tE.P W 0 sp held t v d ps) : ∃ x, V tE (cx0 W) x v ∧ Dat tE n t x := by
  obtain ⟨fuel, h⟩ := h
  obtain ⟨x, h1, h2, h3⟩ := trod_VC tOK W fuel n t _ d ps hs h
  have hk := simple_kn hs
  obtain ⟨td, hu, hag⟩ := tOK.und t hk
  have hna : tE.agg t = false := by
    rw [hag]
    cases td <;> first | rfl | (exact absurd hu (hst _)) | (exact absurd hu (harr _ _))
  have hcell : Cell.okWide tE.P W .any base t v := by
    unfold Value.okWide at hok
    rw [hu] at hok
    cases td <;> first | exact hok | (exact absurd hu (hst _)) | (exact absurd hu (harr _ _))
  have hnagg : ∀ cs, v ≠ .agg cs := fun cs e => by
    subst e
    have h5 : Cell.ok tE.P W .any base t (.agg cs) → False := fun hc => by
      unfold Cell.ok at hc
      rw [hu] at hc
      cases td <;> exact hc
    unfold Cell.okWide at hcell
    rw [hu] at hcell
    cases td <;> exact h5 hcell
  have hone : v.cells = #[v] := by
    cases v with
    | agg cs => exact absurd rfl (hnagg cs)
    | _ => rfl
  rw [hone] at h1
  refine ⟨x, V_one h1 (fun t' fs e => ?_), h3⟩
  subst e
  simp only [fits, Bool.and_eq_true, hna] at h2
  exact absurd h2.2 (by simp)

theorem trodAll_stays {W W' : World} (hb : Below W.heap.size W W') : ∀ {ts : List TypeId} {vs : List Value} {ds : List (DataW H)} {ps : List MemPlace}, (∀ t ∈ ts, Try.prog.readableRec t = true ∧ t < Try.prog.types.size) →
    DataW.TrodAll enc Try.prog W 0 (fun _ => true) true ts vs ds ps → (∀ x ∈ ps, x.block < W.heap.size) → DataW.TrodAll enc Try.prog W' 0 (fun b => decide (b < W.heap.size)) true ts vs ds ps
  | [], [], [], ps, _, h, _ => h
  | t :: ts, v :: vs, d :: ds, ps, ht, h, hl => by
    obtain ⟨p, q, h1, h2, rfl⟩ := h
    obtain ⟨k1, k2⟩ := ht t (by simp)
    exact ⟨p, q, Below.trod Try.laidOut k1 k2 h1 hb (fun x hx => hl x (by simp [hx])), trodAll_stays hb (fun t ht' => ht t (by simp [ht'])) h2 (fun x hx => hl x (by simp [hx])), rfl⟩
  | [], _ :: _, _, _, _, h, _ => h.elim
  | [], [], _ :: _, _, _, h, _ => h.elim
  | _ :: _, [], _, _, _, h, _ => h.elim
  | _ :: _, _ :: _, [], _, _, h, _ => h.elim

theorem law_post {s : ChangeSpec} {fn : Func} {W W' : World} {args : Array Value} {ds gs : List (DataW H)} {before : List MemPlace} {fresh : Bool} (hW : DataW.Whole enc Try.prog fn.params.toList s.vars false W args.toList ds gs before) (hb : Below W.heap.size W W')
    (hvars : s.vars = []) (hs : s.fn H (ds ++ gs) = { results := [.lit (.bool true)], args := ds }) (hr : fn.resultTypes = #[4]) (hread : fn.params.toList.all (fun t => Try.prog.readableRec t && decide (t < Try.prog.types.size)) = true) :
    s.post enc Try.prog fn false fresh false false W args (.bool true) W' := by
  have hW' := hW
  obtain ⟨p, q, h1, h2, rfl, h3, h4⟩ := hW
  have hlt := fun x hx => hW'.lt x hx
  have hbool : Try.prog.underlying 4 = some .bool := tOK.td 4 rfl
  refine ⟨ds, gs, p ++ q, [], p, [], hW', ?_, ?_, ?_, ?_, by simp⟩
  · rw [hs, hr]
    cases fresh <;> exact trodAll_mk1 (shut_bool hbool true)
  · rw [hs]
    exact trodAll_stays hb (fun t ht => by simpa using List.all_eq_true.1 hread t ht) h1 (fun x hx => hlt x (by simp [hx]))
  · rw [hvars, hs]; rfl
  · refine ⟨hb.os, hb.output, fun i hi => ?_⟩
    rw [hb.block i hi]
    exact (World.keptBut_refl W (fun x => x ∈ p ++ q ∧ (x ∈ ([] : List MemPlace) ∨ x ∈ p ∨ x ∈ ([] : List MemPlace)))).2.2 i hi

/-- A law that answers true, whatever it is called with. -/
theorem law_calls {f : FuncId} {xs : List PV} {W : World} {args : Array Value} (hv : VL tE (cx0 W) xs args.toList) (hC : ∀ R : Re → Store → Prop, (∀ σ, R (.ret (.bool true)) σ) → C tE f xs [] R) :
    Calls Try.prog f args W fun e W' => e = .returned (.bool true) ∧ Below W.heap.size W W' := by
  have := hC (fun re _ => re = .ret (.bool true)) (fun _ => rfl) (cx0 W) args (Now.cx0 W) hv
  refine Calls.mono this ?_
  rintro e w' ⟨re, σ', cx', rfl, rfl, hre, hn, hs⟩
  refine ⟨?_, ⟨hs.os, hs.tape, hs.output, hs.size, fun k hk => hs.keeps k hk⟩⟩
  cases e <;> simp only [ReOK] at hre
  have := V.bool_inv hre
  rw [this]

theorem dat_int {n : Nat} {x : PV} (h : Dat tE (n + 1) 3 x) : ∃ k, x = i64 k ∧ -9223372036854775808 ≤ k ∧ k ≤ 9223372036854775807 := by
  obtain ⟨k, rfl, hw⟩ := (h : ∃ i, x = .int .i64 i ∧ (Lit.int .i64 i).wf = true)
  refine ⟨k, rfl, ?_⟩
  simp [Lit.wf, IntKind.has, IntKind.min, IntKind.max, IntKind.signed, IntKind.bits] at hw
  omega
theorem dat_u8 {n : Nat} {x : PV} (h : Dat tE (n + 1) 5 x) : ∃ k : UInt8, x = .int .u8 k.toNat := by
  obtain ⟨k, rfl, hw⟩ := (h : ∃ i, x = .int .u8 i ∧ (Lit.int .u8 i).wf = true)
  simp [Lit.wf, IntKind.has, IntKind.min, IntKind.max, IntKind.signed, IntKind.bits] at hw
  refine ⟨UInt8.ofNat k.toNat, ?_⟩
  have : (UInt8.ofNat k.toNat).toNat = k.toNat := by simp; omega
  rw [this]
  congr 1; omega
theorem dat_str {n : Nat} {x : PV} (h : Dat tE (n + 1) 9 x) : ∃ s : ByteArray, x = .str s ∧ s.size ≤ maxLen := h
theorem dat_list {n : Nat} {e t : TypeId} {x : PV} {α : Type} {f : α → PV} {P : α → Prop} (h : ∃ xs, x = .lit xs ∧ xs.length ≤ maxLen ∧ ∀ y ∈ xs, Dat tE n e y) (hf : ∀ y, Dat tE n e y → ∃ a, y = f a ∧ P a) :
    ∃ l : List α, x = .lit (l.map f) ∧ l.length ≤ maxLen ∧ ∀ a ∈ l, P a := by
  obtain ⟨xs, rfl, hl, hx⟩ := h
  have : ∃ l : List α, xs = l.map f ∧ ∀ a ∈ l, P a := by
    clear hl
    induction xs with
    | nil => exact ⟨[], rfl, by simp⟩
    | cons y ys ih =>
      obtain ⟨a, rfl, ha⟩ := hf y (hx y (by simp))
      obtain ⟨l, rfl, hl⟩ := ih fun y hy => hx y (by simp [hy])
      exact ⟨a :: l, rfl, fun b hb => by rcases List.mem_cons.1 hb with rfl | hb; exact ha; exact hl b hb⟩
  obtain ⟨l, rfl, h2⟩ := this
  exact ⟨l, rfl, by simpa using hl, h2⟩
theorem dat_bytes {n : Nat} {x : PV} (h : Dat tE (n + 2) 23 x) : ∃ l : List UInt8, x = u8s l ∧ l.length ≤ maxLen := by
  obtain ⟨l, rfl, h1, _⟩ := dat_list (t := 0) (f := fun b : UInt8 => PV.int .u8 b.toNat) (P := fun _ => True) (h : ∃ xs, x = .lit xs ∧ xs.length ≤ maxLen ∧ ∀ y ∈ xs, Dat tE (n + 1) 5 y) (fun y hy => by
    obtain ⟨k, rfl⟩ := dat_u8 hy
    exact ⟨k, rfl, trivial⟩)
  exact ⟨l, rfl, h1⟩
theorem dat_ints {n : Nat} {x : PV} (h : Dat tE (n + 2) 44 x) : ∃ l : List Int, x = .lit (ints l) ∧ l.length ≤ maxLen ∧ ∀ k ∈ l, -9223372036854775808 ≤ k ∧ k ≤ 9223372036854775807 :=
  dat_list (t := 0) (f := i64) (P := fun k => -9223372036854775808 ≤ k ∧ k ≤ 9223372036854775807) (h : ∃ xs, x = .lit xs ∧ xs.length ≤ maxLen ∧ ∀ y ∈ xs, Dat tE (n + 1) 3 y) (fun y hy => dat_int hy)
end
end Go.Proofs.Ytphhcpdkemagiaa
end
