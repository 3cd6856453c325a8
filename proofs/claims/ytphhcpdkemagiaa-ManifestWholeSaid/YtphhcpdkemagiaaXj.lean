/- ManifestRow: the walk. -/
import Derived.Test.YtphhcpdkemagiaaXi
import Derived.Test.YtphhcpdkemagiaaXh
import Derived.Test.YtphhcpdkemagiaaXd
import Derived.Test.YtphhcpdkemagiaaRows
import Derived.ProofKit
section
set_option linter.unusedVariables false
set_option linter.unusedSimpArgs false
set_option maxRecDepth 20000
namespace Go.Proofs.Ytphhcpdkemagiaa
open Go
attribute [local simp] RF_nil RF_cons afterRF_ret nilCmp sop sGuard isCall sCallee Fr.eval Fr.get Fr.put ofConst sLoad sStore sBuiltin Fr.args bodyQ sRes oneOf sBin sInt sUn
attribute [local simp] RD_nil RD_cons noConf clear accAdd Tab.pr Tab.slot foot wid idOf refId Op.operands Call.operands sFieldAddr sNilCheck sLookup keyLit sMapSet sMapDel sLen Store.at Store.new getP setP typeAt fits evalParts sBuildSlice sFill sList sApp sAppend frzRe frz pureB pureL
attribute [local simp] optEval sSlice sIndexAddr xop sClear
def iss (ls : List (List Int)) : List PV := ls.map fun l => .lit (is l)
theorem iss_len (ls : List (List Int)) : (iss ls).length = ls.length := by simp [iss]
theorem iss_get {ls : List (List Int)} {k : Nat} (h : k < ls.length) : (iss ls)[k]? = some (.lit (is ls[k])) := by simp [iss, h]
theorem belowL_is (n : Nat) (l : List Int) : belowL n (is l) = true := belowL_of_pure n _ (pureL_is l)
theorem pureL_iss (ls : List (List Int)) : pureL (iss ls) = true := by
  unfold iss
  exact pureL_map _ (fun l => by show pureB _ = true; simp [pureB, pureL_is]) ls
/-- No list, and the empty list. -/
theorem T_nils {N z : Nat} {c : Code} {Q : Post} {fr fr' : Fr} {σ : Store} (t : Nat) (h1 : ∀ s x, Fr.get fr' s = some x → (s = t ∧ x = .lit [] ∧ Fr.get fr t = some .nils) ∨ Fr.get fr s = some x) (h : T tE N z c Q fr' σ) : T tE N z c Q fr σ := fun cx a ht hn hf =>
  h cx a ht hn ⟨hf.1, fun s x hx => by
    rcases h1 s x hx with ⟨rfl, rfl, h2⟩ | h2
    · obtain ⟨h3, h4⟩ := hf.2 _ _ h2
      exact ⟨h3, V.nils_lit h4⟩
    · exact hf.2 _ _ h2⟩
theorem rowD_below (l : List Int) : belowStore 2 [some (dkM (rowD l)), some (dkBj (rowD l) 0)] = true := by
  have : (encFs (rowD l).files).all (fun q => belowB 2 q.2) = true := encFs_below 2 (rowD l).files
  simp only [belowStore, belowBlk, dkM, List.all_cons, this]; simp [dkBj, belowBlk, belowL, belowB]
section
variable {R : Re → Store → Prop} {ls : List (List Int)}
set_option maxHeartbeats 4000000 in
theorem C_mrow (h : ∀ σ, R (.ret (.bool true)) σ) : C tE 6 [.lit (iss ls)] [] R := by
  have hll := iss_len ls
  have hst : ([some (Blk.mp 9 []), some (Blk.cells 65 0 [PV.agg 65 [i64 3000, PV.map 0, i64 (-1), i64 0]])] : Store) = [some (dkM (rowD [])), some (dkBj (rowD []) 0)] := rfl
  cases h9 : decide (60 < (ls.length : Int)) with
  | true =>
    refine C_bodyk tOK Try.func6 rfl (Nat.le_of_ble_eq_true rfl) fun K hK => ?_; simp
    repeat (first | (refine T_seqk fun K hK => ?_) | (refine T_reg tOK rfl ?_; simp [hll,h9]) | (refine T_ret ?_; try simp) | (refine T_skip ?_; try simp) | (refine T_blockk fun K hK => ?_) | (with_reducible apply_assumption -exfalso -symm) | (rw [afterRF_ret]; simp [hll,h9]) | (refine T_exit ?_; try simp) | (refine T_cond_t ?_ ?_; · (simp; done)) | (refine T_cond_f ?_ ?_; · (simp; done)) | (rintro _ _ (_ | _) hz9 <;> first | (simp; done) | (simp at hz9; done)) | (refine And.intro ?_ ?_) | (simp only [Post.block_ret, Post.block_exit, Post.block_normal, Post.block_pan, Post.seq_ret, Post.seq_exit, Post.seq_normal, Post.seq_pan]; try simp [hll,h9]) | (refine T_loop (TL_round ?_)) | (refine TL_round ?_))
    refine C_mhead ?_
    repeat (first | (rw [afterRF_ret]; simp [hll,h9]) | with_reducible apply_assumption -exfalso -symm)
    repeat (first | (refine T_seqk fun K hK => ?_) | (refine T_reg tOK rfl ?_; simp) | (refine T_ret ?_; try simp) | (refine T_skip ?_; try simp) | (refine T_blockk fun K hK => ?_) | (with_reducible apply_assumption -exfalso -symm) | (rw [afterRF_ret]; simp) | (refine T_exit ?_; try simp) | (refine T_cond_t ?_ ?_; · (simp; done)) | (refine T_cond_f ?_ ?_; · (simp; done)) | (rintro _ _ (_ | _) hz9 <;> first | (simp; done) | (simp at hz9; done)) | (refine And.intro ?_ ?_) | (simp only [Post.block_ret, Post.block_exit, Post.block_normal, Post.block_pan, Post.seq_ret, Post.seq_exit, Post.seq_normal, Post.seq_pan]; try simp) | (refine T_loop (TL_round ?_)) | (refine TL_round ?_))
    refine C_new_ok rfl rfl ?_
    repeat (first | (rw [afterRF_ret]; simp ) | with_reducible apply_assumption -exfalso -symm)
    repeat (first | (refine T_seqk fun K hK => ?_) | (refine T_reg tOK rfl ?_; simp [hll,h9]) | (refine T_ret ?_; try simp) | (refine T_skip ?_; try simp) | (refine T_blockk fun K hK => ?_) | (with_reducible apply_assumption -exfalso -symm) | (rw [afterRF_ret]; simp [hll,h9]) | (refine T_exit ?_; try simp) | (refine T_cond_t ?_ ?_; · (simp; done)) | (refine T_cond_f ?_ ?_; · (simp; done)) | (rintro _ _ (_ | _) hz9 <;> first | (simp; done) | (simp at hz9; done)) | (refine And.intro ?_ ?_) | (simp only [Post.block_ret, Post.block_exit, Post.block_normal, Post.block_pan, Post.seq_ret, Post.seq_exit, Post.seq_normal, Post.seq_pan]; try simp [hll,h9]))
  | false =>
    have hl9 : ls.length ≤ 60 := by simp at h9; omega
    refine C_bodyk tOK Try.func6 rfl (Nat.le_of_ble_eq_true rfl) fun K hK => ?_; simp
    repeat (first | (refine T_seqk fun K hK => ?_) | (refine T_reg tOK rfl ?_; simp [hll,h9]) | (refine T_ret ?_; try simp) | (refine T_skip ?_; try simp) | (refine T_blockk fun K hK => ?_) | (with_reducible apply_assumption -exfalso -symm) | (rw [afterRF_ret]; simp [hll,h9]) | (refine T_exit ?_; try simp) | (refine T_cond_t ?_ ?_; · (simp; done)) | (refine T_cond_f ?_ ?_; · (simp; done)) | (rintro _ _ (_ | _) hz9 <;> first | (simp; done) | (simp at hz9; done)) | (refine And.intro ?_ ?_) | (simp only [Post.block_ret, Post.block_exit, Post.block_normal, Post.block_pan, Post.seq_ret, Post.seq_exit, Post.seq_normal, Post.seq_pan]; try simp [hll,h9]) | (refine T_loop (TL_round ?_)) | (refine TL_round ?_))
    refine C_mhead ?_
    repeat (first | (rw [afterRF_ret]; simp [hll,h9]) | with_reducible apply_assumption -exfalso -symm)
    repeat (first | (refine T_seqk fun K hK => ?_) | (refine T_reg tOK rfl ?_; simp) | (refine T_ret ?_; try simp) | (refine T_skip ?_; try simp) | (refine T_blockk fun K hK => ?_) | (with_reducible apply_assumption -exfalso -symm) | (rw [afterRF_ret]; simp) | (refine T_exit ?_; try simp) | (refine T_cond_t ?_ ?_; · (simp; done)) | (refine T_cond_f ?_ ?_; · (simp; done)) | (rintro _ _ (_ | _) hz9 <;> first | (simp; done) | (simp at hz9; done)) | (refine And.intro ?_ ?_) | (simp only [Post.block_ret, Post.block_exit, Post.block_normal, Post.block_pan, Post.seq_ret, Post.seq_exit, Post.seq_normal, Post.seq_pan]; try simp) | (refine T_loop (TL_round ?_)) | (refine TL_round ?_))
    refine C_new_ok rfl rfl ?_
    repeat (first | (rw [afterRF_ret]; simp ) | with_reducible apply_assumption -exfalso -symm)
    refine T_seqkk [0, 3, 4] [(0, .lit (iss ls)), (3, .bool true), (4, .ptr 1 0 0 [])] [some (dkM (rowD [])), some (dkBj (rowD []) 0)] (fun K hK => ?_) ?_
    · repeat (first | (refine T_seqk fun K hK => ?_) | (refine T_reg tOK rfl ?_; simp [hll,h9,Fr.keep]) | (refine T_ret ?_; try simp) | (refine T_skip ?_; try simp) | (refine T_blockk fun K hK => ?_) | (with_reducible apply_assumption -exfalso -symm) | (rw [afterRF_ret]; simp [hll,h9,Fr.keep]) | (refine T_exit ?_; try simp) | (refine T_cond_t ?_ ?_; · (simp; done)) | (refine T_cond_f ?_ ?_; · (simp; done)) | (rintro _ _ (_ | _) hz9 <;> first | (simp; done) | (simp at hz9; done)) | (refine And.intro ?_ ?_) | (simp only [Post.block_ret, Post.block_exit, Post.block_normal, Post.block_pan, Post.seq_ret, Post.seq_exit, Post.seq_normal, Post.seq_pan]; try simp [hll,h9,Fr.keep]))
    refine T_seqk fun K hK => ?_
    refine T_reg tOK rfl ?_
    simp
    refine hK _ _ ?_
    refine T_nils (fr' := [(0, .lit (iss ls)), (3, .bool true), (4, .ptr 1 0 0 []), (5, .lit (is []))]) 5 ?_ ?_
    · intro s x hx
      simp at hx ⊢
      by_cases e : 5 = s
      · subst e; simp at hx; exact .inl ⟨rfl, hx.symm⟩
      · right
        simp [e]
        simpa [e] using hx
    refine T_seq ?_
    refine T_seq ?_
    refine T_reg tOK rfl ?_
    simp
    refine T_block ?_
    refine T_loop ?_
    refine TL_keep [0, 3, 4, 5, 6] ?_
    simp [Fr.keep]
    refine TL_st ls.length (fun k fr σ => ∃ last, (last = [] ∨ okL last = true) ∧ fr = [(0, .lit (iss ls)), (3, .bool true), (4, .ptr 1 0 0 []), (5, .lit (is last)), (6, i64 k)] ∧ σ = [some (dkM (rowD last)), some (dkBj (rowD last) 0)]) ?_ ?_ ⟨[], .inl rfl, rfl, rfl⟩
    · rintro fr σ ⟨last, hlast, rfl, rfl⟩
      refine TL_round ?_
      repeat (first | (refine T_seqk fun K hK => ?_) | (refine T_reg tOK rfl ?_; simp [hll]) | (refine T_ret ?_; try simp) | (refine T_skip ?_; try simp) | (refine T_blockk fun K hK => ?_) | (with_reducible apply_assumption -exfalso -symm) | (rw [afterRF_ret]; simp [hll]) | (refine T_exit ?_; try simp) | (refine T_cond_t ?_ ?_; · (simp; done)) | (refine T_cond_f ?_ ?_; · (simp; done)) | (rintro _ _ (_ | _) hz9 <;> first | (simp; done) | (simp at hz9; done)) | (refine And.intro ?_ ?_) | (simp only [Post.block_ret, Post.block_exit, Post.block_normal, Post.block_pan, Post.seq_ret, Post.seq_exit, Post.seq_normal, Post.seq_pan]; try simp [hll]))
    · rintro k fr σ hk ⟨last, hlast, rfl, rfl⟩ ih
      replace ih := PLift.up ih
      have hkb : decide (k < ls.length) = true := by simpa using hk
      have hwk : IntKind.i64.wrap ((k : Int) + 1) = ((k + 1 : Nat) : Int) := by rw [IntWalk.i64_in _ (by omega)]; omega
      have ek := iss_get hk
      have lk : k < (iss ls).length := by omega
      have ek' := get_of ek lk
      have hkl := is_len ls[k]
      have hdk : DkAt [some (dkM (rowD last)), some (dkBj (rowD last) 0)] 1 0 (rowD last) := ⟨by decide, rfl, rfl⟩
      have hI := row_inv hlast
      cases hnk : decide (900 < (ls[k].length : Int)) with
      | true =>
        refine TL_round ?_
        repeat (first | (refine T_seqk fun K hK => ?_) | (refine T_reg tOK rfl ?_; simp [hll,hkb,ek,ek',lk,hkl,hnk]) | (refine T_ret ?_; try simp) | (refine T_skip ?_; try simp) | (refine T_blockk fun K hK => ?_) | (with_reducible apply_assumption -exfalso -symm) | (rw [afterRF_ret]; simp [hll,hkb,ek,ek',lk,hkl,hnk]) | (refine T_exit ?_; try simp) | (refine T_cond_t ?_ ?_; · (simp; done)) | (refine T_cond_f ?_ ?_; · (simp; done)) | (rintro _ _ (_ | _) hz9 <;> first | (simp; done) | (simp at hz9; done)) | (refine And.intro ?_ ?_) | (simp only [Post.block_ret, Post.block_exit, Post.block_normal, Post.block_pan, Post.seq_ret, Post.seq_exit, Post.seq_normal, Post.seq_pan]; try simp [hll,hkb,ek,ek',lk,hkl,hnk]))
      | false =>
        have hnk9 : ls[k].length ≤ 900 := by simp at hnk; omega
        refine TL_round ?_
        repeat (first | (refine T_seqk fun K hK => ?_) | (refine T_reg tOK rfl ?_; simp [hll,hkb,ek,ek',lk,hkl,hnk]) | (refine T_ret ?_; try simp) | (refine T_skip ?_; try simp) | (refine T_blockk fun K hK => ?_) | (with_reducible apply_assumption -exfalso -symm) | (rw [afterRF_ret]; simp [hll,hkb,ek,ek',lk,hkl,hnk]) | (refine T_exit ?_; try simp) | (refine T_cond_t ?_ ?_; · (simp; done)) | (refine T_cond_f ?_ ?_; · (simp; done)) | (rintro _ _ (_ | _) hz9 <;> first | (simp; done) | (simp at hz9; done)) | (refine And.intro ?_ ?_) | (simp only [Post.block_ret, Post.block_exit, Post.block_normal, Post.block_pan, Post.seq_ret, Post.seq_exit, Post.seq_normal, Post.seq_pan]; try simp [hll,hkb,ek,ek',lk,hkl,hnk]))
        refine C_swap_at hdk hI (by omega) ?_
        cases hok : okL ls[k] with
        | false =>
          rw [row_bad hok]
          simp [dkPut]
          repeat (first | (rw [afterRF_ret]; simp ) | with_reducible apply_assumption -exfalso -symm)
          repeat (first | (refine T_seqk fun K hK => ?_) | (refine T_reg tOK rfl ?_; simp [hll,hkb,ek,ek',lk,hkl,hwk]) | (refine T_ret ?_; try simp) | (refine T_skip ?_; try simp) | (refine T_blockk fun K hK => ?_) | (with_reducible apply_assumption -exfalso -symm) | (rw [afterRF_ret]; simp [hll,hkb,ek,ek',lk,hkl,hwk]) | (refine T_exit ?_; try simp) | (refine T_cond_t ?_ ?_; · (simp; done)) | (refine T_cond_f ?_ ?_; · (simp; done)) | (rintro _ _ (_ | _) hz9 <;> first | (simp; done) | (simp at hz9; done)) | (refine And.intro ?_ ?_) | (simp only [Post.block_ret, Post.block_exit, Post.block_normal, Post.block_pan, Post.seq_ret, Post.seq_exit, Post.seq_normal, Post.seq_pan]; try simp [hll,hkb,ek,ek',lk,hkl,hwk]))
          refine C_right (by omega) ?_
          rw [hok]
          repeat (first | (rw [afterRF_ret]; simp ) | with_reducible apply_assumption -exfalso -symm)
          repeat (first | (refine T_seqk fun K hK => ?_) | (refine T_reg tOK rfl ?_; simp [hll,hkb,ek,ek',lk,hkl,hwk]) | (refine T_ret ?_; try simp) | (refine T_skip ?_; try simp) | (refine T_blockk fun K hK => ?_) | (with_reducible apply_assumption -exfalso -symm) | (rw [afterRF_ret]; simp [hll,hkb,ek,ek',lk,hkl,hwk]) | (refine T_exit ?_; try simp) | (refine T_cond_t ?_ ?_; · (simp; done)) | (refine T_cond_f ?_ ?_; · (simp; done)) | (rintro _ _ (_ | _) hz9 <;> first | (simp; done) | (simp at hz9; done)) | (refine And.intro ?_ ?_) | (simp only [Post.block_ret, Post.block_exit, Post.block_normal, Post.block_pan, Post.seq_ret, Post.seq_exit, Post.seq_normal, Post.seq_pan]; try simp [hll,hkb,ek,ek',lk,hkl,hwk]))
          rcases hlast with rfl | hlo
          · have hn0 : (is []).length = 0 := rfl
            refine C_load_at (i := 1) (j := 0) (d := rowD []) ⟨by decide, rfl, rfl⟩ (row_inv (.inl rfl)) ?_
            rw [row_load0]
            repeat (first | (rw [afterRF_ret]; simp ) | with_reducible apply_assumption -exfalso -symm)
            repeat (first | (refine T_seqk fun K hK => ?_) | (refine T_reg tOK rfl ?_; simp [hll,hkb,ek,ek',lk,hkl,hwk,hn0]) | (refine T_ret ?_; try simp) | (refine T_skip ?_; try simp) | (refine T_blockk fun K hK => ?_) | (with_reducible apply_assumption -exfalso -symm) | (rw [afterRF_ret]; simp [hll,hkb,ek,ek',lk,hkl,hwk,hn0]) | (refine T_exit ?_; try simp) | (refine T_cond_t ?_ ?_; · (simp; done)) | (refine T_cond_f ?_ ?_; · (simp; done)) | (rintro _ _ (_ | _) hz9 <;> first | (simp; done) | (simp at hz9; done)) | (refine And.intro ?_ ?_) | (simp only [Post.block_ret, Post.block_exit, Post.block_normal, Post.block_pan, Post.seq_ret, Post.seq_exit, Post.seq_normal, Post.seq_pan]; try simp [hll,hkb,ek,ek',lk,hkl,hwk,hn0]))
            refine C_samei (by simp) (by simp) ?_
            rw [show (([] : List Int) == []) = true from rfl]
            repeat (first | (rw [afterRF_ret]; simp [hll,hkb,ek,ek',lk,hkl,hwk,hn0]) | with_reducible apply_assumption -exfalso -symm)
            repeat (first | (refine T_seqk fun K hK => ?_) | (refine T_reg tOK rfl ?_; simp [hll,hkb,ek,ek',lk,hkl,hwk,hn0]) | (refine T_ret ?_; try simp) | (refine T_skip ?_; try simp) | (refine T_blockk fun K hK => ?_) | (with_reducible apply_assumption -exfalso -symm) | (rw [afterRF_ret]; simp [hll,hkb,ek,ek',lk,hkl,hwk,hn0]) | (refine T_exit ?_; try simp) | (refine T_cond_t ?_ ?_; · (simp; done)) | (refine T_cond_f ?_ ?_; · (simp; done)) | (rintro _ _ (_ | _) hz9 <;> first | (simp; done) | (simp at hz9; done)) | (refine And.intro ?_ ?_) | (simp only [Post.block_ret, Post.block_exit, Post.block_normal, Post.block_pan, Post.seq_ret, Post.seq_exit, Post.seq_normal, Post.seq_pan]; try simp [hll,hkb,ek,ek',lk,hkl,hwk,hn0]))
            refine TL_fall (fr' := [(0, .lit (iss ls)), (3, .bool true), (4, .ptr 1 0 0 []), (5, .lit (is [])), (6, i64 ((k + 1 : Nat) : Int))]) (σ' := [some (dkM (rowD [])), some (dkBj (rowD []) 0)]) 2 [0, 3, 4, 5, 6] (by simp) (by simp [Fr.keep]) (by simp [belowFr, belowB, belowL_of_pure _ _ (pureL_is []), belowL_of_pure _ _ (pureL_iss ls)]) (by simp) ?_ (ih.down _ _ ⟨[], .inl rfl, rfl, rfl⟩)
            exact rowD_below _
          · skip
            have hbl : (last).length ≤ 40 := (okL_facts hlo).2.1
            have hbp : 0 < (last).length := (okL_facts hlo).1
            have hbd : decide (0 < (last).length) = true := by simp; omega
            have hnl := is_len (last)
            have hne : ¬ last = [] := fun e => by rw [e] at hbp; simp at hbp
            refine C_load_at (i := 1) (j := 0) (d := rowD (last)) ⟨by decide, rfl, rfl⟩ (row_inv (.inr hlo)) ?_
            rw [row_load hlo]
            repeat (first | (rw [afterRF_ret]; simp ) | with_reducible apply_assumption -exfalso -symm)
            repeat (first | (refine T_seqk fun K hK => ?_) | (refine T_reg tOK rfl ?_; simp [hll,hkb,ek,ek',lk,hkl,hwk,hnl,hbd]) | (refine T_ret ?_; try simp) | (refine T_skip ?_; try simp) | (refine T_blockk fun K hK => ?_) | (with_reducible apply_assumption -exfalso -symm) | (rw [afterRF_ret]; simp [hll,hkb,ek,ek',lk,hkl,hwk,hnl,hbd]) | (refine T_exit ?_; try simp) | (refine T_cond_t ?_ ?_; · (simp; done)) | (refine T_cond_f ?_ ?_; · (simp; done)) | (rintro _ _ (_ | _) hz9 <;> first | (simp; done) | (simp at hz9; done)) | (refine And.intro ?_ ?_) | (simp only [Post.block_ret, Post.block_exit, Post.block_normal, Post.block_pan, Post.seq_ret, Post.seq_exit, Post.seq_normal, Post.seq_pan]; try simp [hll,hkb,ek,ek',lk,hkl,hwk,hnl,hbd]))
            refine C_samei (by omega) (by omega) ?_
            rw [show (last == last) = true by simp]
            repeat (first | (rw [afterRF_ret]; simp [hll,hkb,ek,ek',lk,hkl,hwk,hnl,hbd,hne]) | with_reducible apply_assumption -exfalso -symm)
            repeat (first | (refine T_seqk fun K hK => ?_) | (refine T_reg tOK rfl ?_; simp [hll,hkb,ek,ek',lk,hkl,hwk,hnl,hbd,hne]) | (refine T_ret ?_; try simp) | (refine T_skip ?_; try simp) | (refine T_blockk fun K hK => ?_) | (with_reducible apply_assumption -exfalso -symm) | (rw [afterRF_ret]; simp [hll,hkb,ek,ek',lk,hkl,hwk,hnl,hbd,hne]) | (refine T_exit ?_; try simp) | (refine T_cond_t ?_ ?_; · (simp; done)) | (refine T_cond_f ?_ ?_; · (simp; done)) | (rintro _ _ (_ | _) hz9 <;> first | (simp; done) | (simp at hz9; done)) | (refine And.intro ?_ ?_) | (simp only [Post.block_ret, Post.block_exit, Post.block_normal, Post.block_pan, Post.seq_ret, Post.seq_exit, Post.seq_normal, Post.seq_pan]; try simp [hll,hkb,ek,ek',lk,hkl,hwk,hnl,hbd,hne]))
            refine C_list_at (i := 1) (j := 0) (d := rowD (last)) ⟨by decide, rfl, rfl⟩ (row_inv (.inr hlo)) ?_
            rw [row_names hlo]
            repeat (first | (rw [afterRF_ret]; simp [hll,hkb,ek,ek',lk,hkl,hwk,hnl,hbd,hne]) | with_reducible apply_assumption -exfalso -symm)
            repeat (first | (refine T_seqk fun K hK => ?_) | (refine T_reg tOK rfl ?_; simp [hll,hkb,ek,ek',lk,hkl,hwk,hnl,hbd,hne]) | (refine T_ret ?_; try simp) | (refine T_skip ?_; try simp) | (refine T_blockk fun K hK => ?_) | (with_reducible apply_assumption -exfalso -symm) | (rw [afterRF_ret]; simp [hll,hkb,ek,ek',lk,hkl,hwk,hnl,hbd,hne]) | (refine T_exit ?_; try simp) | (refine T_cond_t ?_ ?_; · (simp; done)) | (refine T_cond_f ?_ ?_; · (simp; done)) | (rintro _ _ (_ | _) hz9 <;> first | (simp; done) | (simp at hz9; done)) | (refine And.intro ?_ ?_) | (simp only [Post.block_ret, Post.block_exit, Post.block_normal, Post.block_pan, Post.seq_ret, Post.seq_exit, Post.seq_normal, Post.seq_pan]; try simp [hll,hkb,ek,ek',lk,hkl,hwk,hnl,hbd,hne]))
            refine C_lend tOK (args' := [.lit (strs [filN.data.toList]), .lit (strs [filN.data.toList])]) rfl (C_sames (by decide) (by decide) ⟨rfl, ?_⟩)
            rw [show (([filN.data.toList] : List (List UInt8)) == [filN.data.toList]) = true by decide]
            repeat (first | (rw [afterRF_ret]; simp [hll,hkb,ek,ek',lk,hkl,hwk,hnl,hbd,hne]) | with_reducible apply_assumption -exfalso -symm)
            repeat (first | (refine T_seqk fun K hK => ?_) | (refine T_reg tOK rfl ?_; simp [hll,hkb,ek,ek',lk,hkl,hwk,hnl,hbd,hne]) | (refine T_ret ?_; try simp) | (refine T_skip ?_; try simp) | (refine T_blockk fun K hK => ?_) | (with_reducible apply_assumption -exfalso -symm) | (rw [afterRF_ret]; simp [hll,hkb,ek,ek',lk,hkl,hwk,hnl,hbd,hne]) | (refine T_exit ?_; try simp) | (refine T_cond_t ?_ ?_; · (simp; done)) | (refine T_cond_f ?_ ?_; · (simp; done)) | (rintro _ _ (_ | _) hz9 <;> first | (simp; done) | (simp at hz9; done)) | (refine And.intro ?_ ?_) | (simp only [Post.block_ret, Post.block_exit, Post.block_normal, Post.block_pan, Post.seq_ret, Post.seq_exit, Post.seq_normal, Post.seq_pan]; try simp [hll,hkb,ek,ek',lk,hkl,hwk,hnl,hbd,hne]))
            refine TL_fall (fr' := [(0, .lit (iss ls)), (3, .bool true), (4, .ptr 1 0 0 []), (5, .lit (is (last))), (6, i64 ((k + 1 : Nat) : Int))]) (σ' := [some (dkM (rowD (last))), some (dkBj (rowD (last)) 0)]) 2 [0, 3, 4, 5, 6] (by simp) (by simp [Fr.keep]) (by simp [belowFr, belowB, belowL_of_pure _ _ (pureL_is (last)), belowL_of_pure _ _ (pureL_iss ls)]) (by simp) ?_ (ih.down _ _ ⟨last, .inr hlo, rfl, rfl⟩)
            exact rowD_below _
        | true =>
          rw [row_ok hok]
          simp [dkPut]
          repeat (first | (rw [afterRF_ret]; simp ) | with_reducible apply_assumption -exfalso -symm)
          repeat (first | (refine T_seqk fun K hK => ?_) | (refine T_reg tOK rfl ?_; simp [hll,hkb,ek,ek',lk,hkl,hwk]) | (refine T_ret ?_; try simp) | (refine T_skip ?_; try simp) | (refine T_blockk fun K hK => ?_) | (with_reducible apply_assumption -exfalso -symm) | (rw [afterRF_ret]; simp [hll,hkb,ek,ek',lk,hkl,hwk]) | (refine T_exit ?_; try simp) | (refine T_cond_t ?_ ?_; · (simp; done)) | (refine T_cond_f ?_ ?_; · (simp; done)) | (rintro _ _ (_ | _) hz9 <;> first | (simp; done) | (simp at hz9; done)) | (refine And.intro ?_ ?_) | (simp only [Post.block_ret, Post.block_exit, Post.block_normal, Post.block_pan, Post.seq_ret, Post.seq_exit, Post.seq_normal, Post.seq_pan]; try simp [hll,hkb,ek,ek',lk,hkl,hwk]))
          refine C_right (by omega) ?_
          rw [hok]
          repeat (first | (rw [afterRF_ret]; simp ) | with_reducible apply_assumption -exfalso -symm)
          repeat (first | (refine T_seqk fun K hK => ?_) | (refine T_reg tOK rfl ?_; simp [hll,hkb,ek,ek',lk,hkl,hwk]) | (refine T_ret ?_; try simp) | (refine T_skip ?_; try simp) | (refine T_blockk fun K hK => ?_) | (with_reducible apply_assumption -exfalso -symm) | (rw [afterRF_ret]; simp [hll,hkb,ek,ek',lk,hkl,hwk]) | (refine T_exit ?_; try simp) | (refine T_cond_t ?_ ?_; · (simp; done)) | (refine T_cond_f ?_ ?_; · (simp; done)) | (rintro _ _ (_ | _) hz9 <;> first | (simp; done) | (simp at hz9; done)) | (refine And.intro ?_ ?_) | (simp only [Post.block_ret, Post.block_exit, Post.block_normal, Post.block_pan, Post.seq_ret, Post.seq_exit, Post.seq_normal, Post.seq_pan]; try simp [hll,hkb,ek,ek',lk,hkl,hwk]))
          have hbl : (ls[k]).length ≤ 40 := (okL_facts hok).2.1
          have hbp : 0 < (ls[k]).length := (okL_facts hok).1
          have hbd : decide (0 < (ls[k]).length) = true := by simp; omega
          have hnl := is_len (ls[k])
          have hne : ¬ ls[k] = [] := fun e => by rw [e] at hbp; simp at hbp
          refine C_load_at (i := 1) (j := 0) (d := rowD (ls[k])) ⟨by decide, rfl, rfl⟩ (row_inv (.inr hok)) ?_
          rw [row_load hok]
          repeat (first | (rw [afterRF_ret]; simp ) | with_reducible apply_assumption -exfalso -symm)
          repeat (first | (refine T_seqk fun K hK => ?_) | (refine T_reg tOK rfl ?_; simp [hll,hkb,ek,ek',lk,hkl,hwk,hnl,hbd]) | (refine T_ret ?_; try simp) | (refine T_skip ?_; try simp) | (refine T_blockk fun K hK => ?_) | (with_reducible apply_assumption -exfalso -symm) | (rw [afterRF_ret]; simp [hll,hkb,ek,ek',lk,hkl,hwk,hnl,hbd]) | (refine T_exit ?_; try simp) | (refine T_cond_t ?_ ?_; · (simp; done)) | (refine T_cond_f ?_ ?_; · (simp; done)) | (rintro _ _ (_ | _) hz9 <;> first | (simp; done) | (simp at hz9; done)) | (refine And.intro ?_ ?_) | (simp only [Post.block_ret, Post.block_exit, Post.block_normal, Post.block_pan, Post.seq_ret, Post.seq_exit, Post.seq_normal, Post.seq_pan]; try simp [hll,hkb,ek,ek',lk,hkl,hwk,hnl,hbd]))
          refine C_samei (by omega) (by omega) ?_
          rw [show (ls[k] == ls[k]) = true by simp]
          repeat (first | (rw [afterRF_ret]; simp [hll,hkb,ek,ek',lk,hkl,hwk,hnl,hbd,hne]) | with_reducible apply_assumption -exfalso -symm)
          repeat (first | (refine T_seqk fun K hK => ?_) | (refine T_reg tOK rfl ?_; simp [hll,hkb,ek,ek',lk,hkl,hwk,hnl,hbd,hne]) | (refine T_ret ?_; try simp) | (refine T_skip ?_; try simp) | (refine T_blockk fun K hK => ?_) | (with_reducible apply_assumption -exfalso -symm) | (rw [afterRF_ret]; simp [hll,hkb,ek,ek',lk,hkl,hwk,hnl,hbd,hne]) | (refine T_exit ?_; try simp) | (refine T_cond_t ?_ ?_; · (simp; done)) | (refine T_cond_f ?_ ?_; · (simp; done)) | (rintro _ _ (_ | _) hz9 <;> first | (simp; done) | (simp at hz9; done)) | (refine And.intro ?_ ?_) | (simp only [Post.block_ret, Post.block_exit, Post.block_normal, Post.block_pan, Post.seq_ret, Post.seq_exit, Post.seq_normal, Post.seq_pan]; try simp [hll,hkb,ek,ek',lk,hkl,hwk,hnl,hbd,hne]))
          refine C_list_at (i := 1) (j := 0) (d := rowD (ls[k])) ⟨by decide, rfl, rfl⟩ (row_inv (.inr hok)) ?_
          rw [row_names hok]
          repeat (first | (rw [afterRF_ret]; simp [hll,hkb,ek,ek',lk,hkl,hwk,hnl,hbd,hne]) | with_reducible apply_assumption -exfalso -symm)
          repeat (first | (refine T_seqk fun K hK => ?_) | (refine T_reg tOK rfl ?_; simp [hll,hkb,ek,ek',lk,hkl,hwk,hnl,hbd,hne]) | (refine T_ret ?_; try simp) | (refine T_skip ?_; try simp) | (refine T_blockk fun K hK => ?_) | (with_reducible apply_assumption -exfalso -symm) | (rw [afterRF_ret]; simp [hll,hkb,ek,ek',lk,hkl,hwk,hnl,hbd,hne]) | (refine T_exit ?_; try simp) | (refine T_cond_t ?_ ?_; · (simp; done)) | (refine T_cond_f ?_ ?_; · (simp; done)) | (rintro _ _ (_ | _) hz9 <;> first | (simp; done) | (simp at hz9; done)) | (refine And.intro ?_ ?_) | (simp only [Post.block_ret, Post.block_exit, Post.block_normal, Post.block_pan, Post.seq_ret, Post.seq_exit, Post.seq_normal, Post.seq_pan]; try simp [hll,hkb,ek,ek',lk,hkl,hwk,hnl,hbd,hne]))
          refine C_lend tOK (args' := [.lit (strs [filN.data.toList]), .lit (strs [filN.data.toList])]) rfl (C_sames (by decide) (by decide) ⟨rfl, ?_⟩)
          rw [show (([filN.data.toList] : List (List UInt8)) == [filN.data.toList]) = true by decide]
          repeat (first | (rw [afterRF_ret]; simp [hll,hkb,ek,ek',lk,hkl,hwk,hnl,hbd,hne]) | with_reducible apply_assumption -exfalso -symm)
          repeat (first | (refine T_seqk fun K hK => ?_) | (refine T_reg tOK rfl ?_; simp [hll,hkb,ek,ek',lk,hkl,hwk,hnl,hbd,hne]) | (refine T_ret ?_; try simp) | (refine T_skip ?_; try simp) | (refine T_blockk fun K hK => ?_) | (with_reducible apply_assumption -exfalso -symm) | (rw [afterRF_ret]; simp [hll,hkb,ek,ek',lk,hkl,hwk,hnl,hbd,hne]) | (refine T_exit ?_; try simp) | (refine T_cond_t ?_ ?_; · (simp; done)) | (refine T_cond_f ?_ ?_; · (simp; done)) | (rintro _ _ (_ | _) hz9 <;> first | (simp; done) | (simp at hz9; done)) | (refine And.intro ?_ ?_) | (simp only [Post.block_ret, Post.block_exit, Post.block_normal, Post.block_pan, Post.seq_ret, Post.seq_exit, Post.seq_normal, Post.seq_pan]; try simp [hll,hkb,ek,ek',lk,hkl,hwk,hnl,hbd,hne]))
          refine TL_fall (fr' := [(0, .lit (iss ls)), (3, .bool true), (4, .ptr 1 0 0 []), (5, .lit (is (ls[k]))), (6, i64 ((k + 1 : Nat) : Int))]) (σ' := [some (dkM (rowD (ls[k]))), some (dkBj (rowD (ls[k])) 0)]) 2 [0, 3, 4, 5, 6] (by simp) (by simp [Fr.keep]) (by simp [belowFr, belowB, belowL_of_pure _ _ (pureL_is (ls[k])), belowL_of_pure _ _ (pureL_iss ls)]) (by simp) ?_ (ih.down _ _ ⟨ls[k], .inr hok, rfl, rfl⟩)
          exact rowD_below _
end
end Go.Proofs.Ytphhcpdkemagiaa
end
section
/- ManifestWhole: the plain law. -/
set_option linter.unusedVariables false
set_option linter.unusedSimpArgs false
set_option maxRecDepth 20000
namespace Go.Proofs.Ytphhcpdkemagiaa
open Go

/-- The manifest is whole, with what an unfinished Swap may have left beside it. -/
def FA (a : List Int) (fs : List (List UInt8 × Fl)) : Prop := fs = rowF a ∨ ∃ t, fs = rowF a ++ [(tmpN.data.toList, t)]
theorem burn_files (d : Dk) : (burn d).files = d.files := rfl
theorem burn_room (d : Dk) : (burn d).room = d.room := rfl
theorem del_row (a : List Int) : ddel tmpN.data.toList (rowF a) = rowF a := by
  unfold rowF
  split
  · rfl
  · simp only [ddel, List.filter_cons, fil_tmp, ftl, Bool.not_false, if_true, List.filter_nil]
theorem FA.del {a : List Int} {fs : List (List UInt8 × Fl)} (h : FA a fs) : ddel tmpN.data.toList fs = rowF a := by
  rcases h with rfl | ⟨t, rfl⟩
  · exact del_row a
  · exact del_app a t
theorem delete_FA {a : List Int} {d : Dk} (h : FA a d.files) : FA a (delete d tmpN).2.files := by
  unfold delete
  split
  · exact h
  · split
    · exact h
    · exact .inl h.del
theorem delete_room (d : Dk) : (delete d tmpN).2.room = d.room := by
  unfold delete
  split
  · rfl
  · split <;> rfl
theorem undo_FA {a : List Int} {e : Int} {d : Dk} (h : FA a d.files) : FA a (manUndo e d).2.files := by
  unfold manUndo
  split
  · exact h
  · exact delete_FA h
theorem undo_e (e : Int) (d : Dk) : (manUndo e d).1 = e := by unfold manUndo; split <;> rfl
theorem undo_room (e : Int) (d : Dk) : (manUndo e d).2.room = d.room := by
  unfold manUndo
  split
  · rfl
  · exact delete_room d
theorem rowF_some {l : List Int} (h : okL l = true) : rowF l = [(filN.data.toList, ⟨manPut l, (manPut l).length⟩)] := by
  have hl : ¬ l = [] := by rintro rfl; simp [okL] at h
  unfold rowF; rw [if_neg hl]
/-- However it ends. -/
def Ends (a b : List Int) (d : Dk) (r : Int × Dk) : Prop := r.2.room = d.room ∧ ((r.1 = 0 ∧ r.2.files = rowF b) ∨ (r.1 ≠ 0 ∧ FA a r.2.files))
theorem undo_ends {a b : List Int} {d d1 : Dk} {e : Int} (he : e ≠ 0) (hr : d1.room = d.room) (h : FA a d1.files) : Ends a b d (manUndo e d1) :=
  ⟨(undo_room _ _).trans hr, .inr ⟨by rw [undo_e]; exact he, undo_FA h⟩⟩
theorem turn_w {d d1 : Dk} {b : List Int} {e : Int} (h : write d tmpN (manPut b) = (e, d1)) (he : (e == 0) = false) : manTurn d b = manUndo e d1 := by
  unfold manTurn; rw [h]; simp only [he, Bool.false_eq_true, if_false]
theorem turn_s {d d1 d2 : Dk} {b : List Int} {e : Int} (h : write d tmpN (manPut b) = (0, d1)) (h2 : sync d1 tmpN = (e, d2)) (he : (e == 0) = false) : manTurn d b = manUndo e d2 := by
  unfold manTurn; rw [h]; simp only [h2, he, Bool.false_eq_true, if_false, beq_self_eq_true, if_true]
theorem turn_r {d d1 d2 : Dk} {b : List Int} (h : write d tmpN (manPut b) = (0, d1)) (h2 : sync d1 tmpN = (0, d2)) : manTurn d b = rename d2 tmpN filN := by
  unfold manTurn; rw [h]; simp only [h2, beq_self_eq_true, if_true]
theorem turn_ends {a b : List Int} {d : Dk} (hb : okL b = true) (h : d.files = rowF a) : Ends a b d (manTurn d b) := by
  have n := rowF_len a
  have ht := rowF_tmp a
  cases f0 : (d.fuse == 0) with
  | true =>
    have e1 : write d tmpN (manPut b) = (42, d) := by unfold write; rw [if_pos f0]
    rw [turn_w e1 rfl]
    exact undo_ends (by decide) rfl (.inl h)
  | false =>
    have n0 : ¬ (d.fuse == 0) = true := by rw [f0]; simp
    by_cases hroom : d.room - used d.files < ((manPut b).length : Int)
    · have e1 : write d tmpN (manPut b) = (5, burn d) := by
        unfold write; rw [if_neg n0, if_neg (by rw [named_tmp]; decide), h, ht]
        simp only
        rw [if_neg (by omega), if_pos (by rw [← h]; exact hroom)]
      rw [turn_w e1 rfl]
      exact undo_ends (by decide) rfl (.inl h)
    · obtain ⟨d1, hd1⟩ : ∃ d1, ({ burn d with files := rowF a ++ [(tmpN.data.toList, ⟨manPut b, 0⟩)] } : Dk) = d1 := ⟨_, rfl⟩
      have h1 : d1.files = rowF a ++ [(tmpN.data.toList, ⟨manPut b, 0⟩)] := by rw [← hd1]
      have r1 : d1.room = d.room := by rw [← hd1]; rfl
      have e1 : write d tmpN (manPut b) = (0, d1) := by
        unfold write; rw [if_neg n0, if_neg (by rw [named_tmp]; decide), h, ht]
        simp only
        rw [if_neg (by omega), if_neg (by rw [← h]; exact hroom), rowF_put, hd1]
      cases f1 : (d1.fuse == 0) with
      | true =>
        have e2 : sync d1 tmpN = (42, d1) := by unfold sync; rw [if_pos f1]
        rw [turn_s e1 e2 rfl]
        exact undo_ends (by decide) r1 (.inr ⟨_, h1⟩)
      | false =>
        have n1 : ¬ (d1.fuse == 0) = true := by rw [f1]; simp
        by_cases hf : 0 < d1.fail
        · have e2 : sync d1 tmpN = (41, { burn d1 with fail := d1.fail - 1 }) := by
            unfold sync; rw [if_neg n1, h1, find_app]; simp only; rw [if_pos hf]
          rw [turn_s e1 e2 rfl]
          exact undo_ends (by decide) r1 (.inr ⟨_, h1⟩)
        · obtain ⟨d2, hd2⟩ : ∃ d2, ({ burn d1 with files := rowF a ++ [(tmpN.data.toList, ⟨manPut b, (manPut b).length⟩)] } : Dk) = d2 := ⟨_, rfl⟩
          have h2 : d2.files = rowF a ++ [(tmpN.data.toList, ⟨manPut b, (manPut b).length⟩)] := by rw [← hd2]
          have r2 : d2.room = d.room := by rw [← hd2]; exact r1
          have e2 : sync d1 tmpN = (0, d2) := by
            unfold sync; rw [if_neg n1, h1, find_app]; simp only; rw [if_neg hf, put_app, hd2]
          rw [turn_r e1 e2]
          cases f2 : (d2.fuse == 0) with
          | true =>
            have e3 : rename d2 tmpN filN = (42, d2) := by unfold rename; rw [if_pos f2]
            rw [e3]
            exact ⟨r2, .inr ⟨by simp, .inr ⟨_, h2⟩⟩⟩
          | false =>
            have n2 : ¬ (d2.fuse == 0) = true := by rw [f2]; simp
            have e3 : rename d2 tmpN filN = (0, { burn d2 with files := rowF b }) := by
              unfold rename; rw [if_neg n2, if_neg (by rw [named_fil]; decide), h2, find_app]; simp only
              rw [del_app, fil_put, rowF_some hb]
            rw [e3]
            exact ⟨r2, .inl ⟨rfl, rfl⟩⟩
theorem swap_ends {a b : List Int} {d : Dk} (h : d.files = rowF a) : Ends a b d (manSwap d b) := by
  cases hb : okL b with
  | false => rw [row_bad hb]; exact ⟨rfl, .inr ⟨by simp, .inl h⟩⟩
  | true =>
    unfold manSwap
    rw [if_pos hb, h, rowF_tmp, if_neg (by simp)]
    exact turn_ends hb h
theorem FA.fil {a : List Int} (ha : okL a = true) {fs : List (List UInt8 × Fl)} (h : FA a fs) : dget filN.data.toList fs = some ⟨manPut a, (manPut a).length⟩ := by
  rcases h with rfl | ⟨t, rfl⟩ <;> rw [rowF_some ha] <;> simp [dget]
theorem FA.load {a : List Int} (ha : okL a = true) {d : Dk} (h : FA a d.files) : manLoad d = (a, 0) := by
  unfold manLoad
  rw [h.fil ha]
  exact manGet_put ha
theorem tfl : (([109, 97, 110, 105, 102, 101, 115, 116, 46, 116, 109, 112] : List UInt8) == [109, 97, 110, 105, 102, 101, 115, 116]) = false := by decide
theorem bfl' : (Lit.string [109, 97, 110, 105, 102, 101, 115, 116]).before (.string [109, 97, 110, 105, 102, 101, 115, 116, 46, 116, 109, 112]) = true := by decide +kernel
theorem FA.put {a : List Int} (ha : okL a = true) {fs : List (List UInt8 × Fl)} (h : FA a fs) : dput filN.data.toList ⟨manPut a, (manPut a).length⟩ fs = fs := by
  rcases h with rfl | ⟨t, rfl⟩
  · rw [fil_put, rowF_some ha]
  · rw [rowF_some ha]
    simp only [List.cons_append, List.nil_append, dput, ddel, List.filter_cons, beq_self_eq_true, Bool.not_true, Bool.false_eq_true, if_false, tmp_fil, tfl, Bool.not_false, if_true, List.filter_nil, dins, bfl']
theorem crF_full (b : List UInt8) (k : Option Int) : crF ⟨b, b.length⟩ k = ⟨b, b.length⟩ := by
  unfold crF
  split
  · rename_i k
    have : (b.length : Int) + min (max k 0) ((b.length : Int) - b.length) = b.length := by omega
    simp only [this]; simp
  · simp
theorem FA.crs {a : List Int} (ha : okL a = true) (keep : List Int) : ∀ (ns : List (List UInt8)) (i : Nat) (fs : List (List UInt8 × Fl)), (∀ n ∈ ns, n = filN.data.toList ∨ n = tmpN.data.toList) → FA a fs → FA a (crFs keep i ns fs)
  | [], i, fs, hn, h => h
  | n :: ns, i, fs, hn, h => by
    unfold crFs
    refine FA.crs ha keep ns (i + 1) _ (fun m hm => hn m (by simp [hm])) ?_
    rcases hn n (by simp) with rfl | rfl
    · rw [h.fil ha]
      simp only [crF_full]
      rw [h.put ha]; exact h
    · rcases h with rfl | ⟨t, rfl⟩
      · rw [rowF_tmp]; exact .inl rfl
      · rw [find_app]
        simp only
        rw [put_app]
        exact .inr ⟨_, rfl⟩
theorem FA.names {a : List Int} (ha : okL a = true) {d : Dk} (h : FA a d.files) : ∀ n ∈ names d, n = filN.data.toList ∨ n = tmpN.data.toList := by
  intro n hn
  have hm : n ∈ d.files.map (·.1) := (List.mergeSort_perm _ _).mem_iff.1 hn
  rcases h with e | ⟨t, e⟩ <;> rw [e, rowF_some ha] at hm <;> simp at hm
  · exact .inl hm
  · exact hm
theorem FA.crash {a : List Int} (ha : okL a = true) {d : Dk} (h : FA a d.files) (keep : List Int) : FA a (crash d keep).files := FA.crs ha keep _ 0 _ (h.names ha) h
/-- Behind a crash a Swap is done, or the room is too small. -/
theorem swap_again {a b : List Int} (ha : okL a = true) (hb : okL b = true) {d : Dk} (h : FA a d.files) (hf : d.fuse = -1) (hl : d.fail = 0) : (manSwap d b).1 = 0 ∨ d.room < 2 * (used (manSwap d b).2.files : Int) + 200 := by
  have key : ∀ d1 : Dk, d1.files = rowF a → d1.fuse = -1 → d1.fail = 0 → (manTurn d1 b).1 = 0 ∨ d1.room < 2 * (used (manTurn d1 b).2.files : Int) + 200 := by
    intro d1 h1 f1 l1
    have n := rowF_len a
    have hp := manPut_le (l := b)
    have ua : used (rowF a) = (manPut a).length := by rw [rowF_some ha]; simp [used]
    by_cases hroom : d1.room - used d1.files < ((manPut b).length : Int)
    · right
      have e1 : write d1 tmpN (manPut b) = (5, burn d1) := by
        unfold write; rw [if_neg (by rw [f1]; decide), if_neg (by rw [named_tmp]; decide), h1, rowF_tmp]
        simp only
        rw [if_neg (by omega), if_pos (by rw [← h1]; exact hroom)]
      have e2 : (manTurn d1 b).2.files = rowF a := by
        rw [turn_w e1 rfl]
        unfold manUndo
        rw [show ((5 : Int) == 42) = false from rfl]
        simp only [Bool.false_eq_true, if_false]
        unfold delete
        split
        · exact h1
        · rw [show (burn d1).files = rowF a from h1, rowF_tmp]; exact h1
      rw [e2, ua]
      rw [h1, ua] at hroom
      omega
    · left
      have e1 : write d1 tmpN (manPut b) = (0, { burn d1 with files := rowF a ++ [(tmpN.data.toList, ⟨manPut b, 0⟩)] }) := by
        unfold write; rw [if_neg (by rw [f1]; decide), if_neg (by rw [named_tmp]; decide), h1, rowF_tmp]
        simp only
        rw [if_neg (by omega), if_neg (by rw [← h1]; exact hroom), rowF_put]
      have fb : (burn d1).fuse = -1 := by show max (d1.fuse - 1) (-1) = -1; rw [f1]; decide
      have lb : (burn d1).fail = 0 := l1
      have e2 : sync { burn d1 with files := rowF a ++ [(tmpN.data.toList, ⟨manPut b, 0⟩)] } tmpN = (0, { burn (burn d1) with files := rowF a ++ [(tmpN.data.toList, ⟨manPut b, (manPut b).length⟩)] }) := by
        unfold sync
        simp only
        rw [if_neg (by rw [fb]; decide), find_app]
        simp only
        rw [if_neg (by rw [lb]; decide), put_app]
        rfl
      rw [turn_r e1 e2]
      have fc : (burn (burn d1)).fuse = -1 := by show max ((burn d1).fuse - 1) (-1) = -1; rw [fb]; decide
      unfold rename
      simp only
      rw [if_neg (by rw [fc]; decide), if_neg (by rw [named_fil]; decide), find_app]
  unfold manSwap
  rw [if_pos hb]
  rcases h with h | ⟨t, h⟩
  · rw [h, rowF_tmp, if_neg (by simp)]
    exact key d h hf hl
  · rw [h, find_app, if_pos (by simp)]
    have e1 : delete d tmpN = (0, { burn d with files := rowF a }) := by
      unfold delete
      rw [if_neg (by rw [hf]; decide), h, find_app]
      simp only
      rw [del_app]
    rw [e1]
    simp only
    rw [show ((0 : Int) == 0) = true from rfl, if_pos rfl]
    exact key _ rfl (by show max (d.fuse - 1) (-1) = -1; rw [hf]; decide) hl
/-- The first Swap, on a disk that is empty. -/
theorem first_swap {a : List Int} {r : Int} (h : (manSwap ⟨r, [], -1, 0⟩ a).1 = 0) : okL a = true ∧ (manSwap ⟨r, [], -1, 0⟩ a).2.files = rowF a ∧ (manSwap ⟨r, [], -1, 0⟩ a).2.room = r := by
  obtain ⟨h1, h2⟩ := swap_ends (a := []) (b := a) (d := ⟨r, [], -1, 0⟩) rfl
  cases ha : okL a with
  | false => rw [row_bad ha] at h; simp at h
  | true =>
    rcases h2 with ⟨_, h2⟩ | ⟨h2, _⟩
    · exact ⟨rfl, h2, h1⟩
    · exact absurd h h2
end Go.Proofs.Ytphhcpdkemagiaa
end
section
/- ManifestWhole: the walk. -/
set_option linter.unusedVariables false
set_option linter.unusedSimpArgs false
set_option maxRecDepth 20000
namespace Go.Proofs.Ytphhcpdkemagiaa
open Go
attribute [local simp] RF_nil RF_cons afterRF_ret nilCmp sop sGuard isCall sCallee Fr.eval Fr.get Fr.put ofConst sLoad sStore sBuiltin Fr.args bodyQ sRes oneOf sBin sInt sUn
attribute [local simp] RD_nil RD_cons noConf clear accAdd Tab.pr Tab.slot foot wid idOf refId Op.operands Call.operands sFieldAddr sNilCheck sLookup keyLit sMapSet sMapDel sLen Store.at Store.new getP setP typeAt fits evalParts sBuildSlice sFill sList sApp sAppend frzRe frz pureB pureL
attribute [local simp] optEval sSlice sIndexAddr xop sClear
abbrev dS (d : Dk) : Store := [some (dkM d), some (dkBj d 0)]
theorem dS_at (d : Dk) : DkAt (dS d) 1 0 d := ⟨by decide, rfl, rfl⟩
theorem dS_put (d d' : Dk) : dkPut (dS d) 1 0 d' = dS d' := rfl
theorem ints_len (l : List Int) : (ints l).length = l.length := by simp [ints]
section
variable {R : Re → Store → Prop} {a b keep : List Int} {room fuse : UInt8} {fail : Bool}
set_option maxHeartbeats 4000000 in
theorem C_mwhole (hkp : ∀ k ∈ keep, k ≤ 9223372036854775807) (hkl : keep.length ≤ 9223372036854775807) (h : ∀ σ, R (.ret (.bool true)) σ) : C tE 7 [.int .u8 room.toNat, .lit (is a), .lit (is b), .int .u8 fuse.toNat, .bool fail, .lit (ints keep)] [] R := by
  have hal := is_len a
  have hbl := is_len b
  have hil := ints_len keep
  have hr := room.toNat_lt
  have hfu := fuse.toNat_lt
  have wr : IntKind.i64.wrap (room.toNat : Int) = room.toNat := IntWalk.i64_in _ (by omega)
  have n0 : decide ((room.toNat : Int) < 0) = false := by simp
  have n1 : decide (1048576 < (room.toNat : Int)) = false := by simp; omega
  obtain ⟨d0, hd0⟩ : ∃ d0 : Dk, d0 = ⟨room.toNat, [], -1, 0⟩ := ⟨_, rfl⟩
  have hst : ([some (Blk.mp 9 []), some (Blk.cells 65 0 [PV.agg 65 [i64 room.toNat, PV.map 0, i64 (-1), i64 0]])] : Store) = dS d0 := by rw [hd0]; rfl
  have i0 : Inv d0 := by rw [hd0]; exact Inv.new (by omega) (by show (room.toNat : Int) ≤ 1048576; omega)
  cases g1 : decide (900 < (a.length : Int)) with
  | true =>
    refine C_bodyk tOK Try.func7 rfl (Nat.le_of_ble_eq_true rfl) fun K hK => ?_; simp
    repeat (first | (refine T_seqk fun K hK => ?_) | (refine T_reg tOK rfl ?_; simp) | (refine T_ret ?_; try simp) | (refine T_skip ?_; try simp) | (refine T_blockk fun K hK => ?_) | (with_reducible apply_assumption -exfalso -symm) | (rw [afterRF_ret]; simp) | (refine T_exit ?_; try simp) | (refine T_cond_t ?_ ?_; · (simp; done)) | (refine T_cond_f ?_ ?_; · (simp; done)) | (rintro _ _ (_ | _) hz9 <;> first | (simp; done) | (simp at hz9; done)) | (refine And.intro ?_ ?_) | (simp only [Post.block_ret, Post.block_exit, Post.block_normal, Post.block_pan, Post.seq_ret, Post.seq_exit, Post.seq_normal, Post.seq_pan]; try simp) | (refine T_loop (TL_round ?_)) | (refine TL_round ?_))
    refine C_mhead ?_
    repeat (first | (rw [afterRF_ret]; simp ) | with_reducible apply_assumption -exfalso -symm)
    repeat (first | (refine T_seqk fun K hK => ?_) | (refine T_reg tOK rfl ?_; simp [wr]) | (refine T_ret ?_; try simp) | (refine T_skip ?_; try simp) | (refine T_blockk fun K hK => ?_) | (with_reducible apply_assumption -exfalso -symm) | (rw [afterRF_ret]; simp [wr]) | (refine T_exit ?_; try simp) | (refine T_cond_t ?_ ?_; · (simp; done)) | (refine T_cond_f ?_ ?_; · (simp; done)) | (rintro _ _ (_ | _) hz9 <;> first | (simp; done) | (simp at hz9; done)) | (refine And.intro ?_ ?_) | (simp only [Post.block_ret, Post.block_exit, Post.block_normal, Post.block_pan, Post.seq_ret, Post.seq_exit, Post.seq_normal, Post.seq_pan]; try simp [wr]))
    refine C_new_ok n0 n1 ?_
    repeat (first | (rw [afterRF_ret]; simp ) | with_reducible apply_assumption -exfalso -symm)
    repeat (first | (refine T_seqk fun K hK => ?_) | (refine T_reg tOK rfl ?_; simp [hal,g1]) | (refine T_ret ?_; try simp) | (refine T_skip ?_; try simp) | (refine T_blockk fun K hK => ?_) | (with_reducible apply_assumption -exfalso -symm) | (rw [afterRF_ret]; simp [hal,g1]) | (refine T_exit ?_; try simp) | (refine T_cond_t ?_ ?_; · (simp; done)) | (refine T_cond_f ?_ ?_; · (simp; done)) | (rintro _ _ (_ | _) hz9 <;> first | (simp; done) | (simp at hz9; done)) | (refine And.intro ?_ ?_) | (simp only [Post.block_ret, Post.block_exit, Post.block_normal, Post.block_pan, Post.seq_ret, Post.seq_exit, Post.seq_normal, Post.seq_pan]; try simp [hal,g1]))
  | false =>
    have ha9 : a.length ≤ 900 := by simp at g1; omega
    cases g2 : decide (900 < (b.length : Int)) with
    | true =>
      refine C_bodyk tOK Try.func7 rfl (Nat.le_of_ble_eq_true rfl) fun K hK => ?_; simp
      repeat (first | (refine T_seqk fun K hK => ?_) | (refine T_reg tOK rfl ?_; simp) | (refine T_ret ?_; try simp) | (refine T_skip ?_; try simp) | (refine T_blockk fun K hK => ?_) | (with_reducible apply_assumption -exfalso -symm) | (rw [afterRF_ret]; simp) | (refine T_exit ?_; try simp) | (refine T_cond_t ?_ ?_; · (simp; done)) | (refine T_cond_f ?_ ?_; · (simp; done)) | (rintro _ _ (_ | _) hz9 <;> first | (simp; done) | (simp at hz9; done)) | (refine And.intro ?_ ?_) | (simp only [Post.block_ret, Post.block_exit, Post.block_normal, Post.block_pan, Post.seq_ret, Post.seq_exit, Post.seq_normal, Post.seq_pan]; try simp) | (refine T_loop (TL_round ?_)) | (refine TL_round ?_))
      refine C_mhead ?_
      repeat (first | (rw [afterRF_ret]; simp ) | with_reducible apply_assumption -exfalso -symm)
      repeat (first | (refine T_seqk fun K hK => ?_) | (refine T_reg tOK rfl ?_; simp [wr]) | (refine T_ret ?_; try simp) | (refine T_skip ?_; try simp) | (refine T_blockk fun K hK => ?_) | (with_reducible apply_assumption -exfalso -symm) | (rw [afterRF_ret]; simp [wr]) | (refine T_exit ?_; try simp) | (refine T_cond_t ?_ ?_; · (simp; done)) | (refine T_cond_f ?_ ?_; · (simp; done)) | (rintro _ _ (_ | _) hz9 <;> first | (simp; done) | (simp at hz9; done)) | (refine And.intro ?_ ?_) | (simp only [Post.block_ret, Post.block_exit, Post.block_normal, Post.block_pan, Post.seq_ret, Post.seq_exit, Post.seq_normal, Post.seq_pan]; try simp [wr]))
      refine C_new_ok n0 n1 ?_
      repeat (first | (rw [afterRF_ret]; simp ) | with_reducible apply_assumption -exfalso -symm)
      repeat (first | (refine T_seqk fun K hK => ?_) | (refine T_reg tOK rfl ?_; simp [hal,hbl,g1,g2]) | (refine T_ret ?_; try simp) | (refine T_skip ?_; try simp) | (refine T_blockk fun K hK => ?_) | (with_reducible apply_assumption -exfalso -symm) | (rw [afterRF_ret]; simp [hal,hbl,g1,g2]) | (refine T_exit ?_; try simp) | (refine T_cond_t ?_ ?_; · (simp; done)) | (refine T_cond_f ?_ ?_; · (simp; done)) | (rintro _ _ (_ | _) hz9 <;> first | (simp; done) | (simp at hz9; done)) | (refine And.intro ?_ ?_) | (simp only [Post.block_ret, Post.block_exit, Post.block_normal, Post.block_pan, Post.seq_ret, Post.seq_exit, Post.seq_normal, Post.seq_pan]; try simp [hal,hbl,g1,g2]))
    | false =>
      have hb9 : b.length ≤ 900 := by simp at g2; omega
      cases g3 : decide (900 < (keep.length : Int)) with
      | true =>
        refine C_bodyk tOK Try.func7 rfl (Nat.le_of_ble_eq_true rfl) fun K hK => ?_; simp
        repeat (first | (refine T_seqk fun K hK => ?_) | (refine T_reg tOK rfl ?_; simp) | (refine T_ret ?_; try simp) | (refine T_skip ?_; try simp) | (refine T_blockk fun K hK => ?_) | (with_reducible apply_assumption -exfalso -symm) | (rw [afterRF_ret]; simp) | (refine T_exit ?_; try simp) | (refine T_cond_t ?_ ?_; · (simp; done)) | (refine T_cond_f ?_ ?_; · (simp; done)) | (rintro _ _ (_ | _) hz9 <;> first | (simp; done) | (simp at hz9; done)) | (refine And.intro ?_ ?_) | (simp only [Post.block_ret, Post.block_exit, Post.block_normal, Post.block_pan, Post.seq_ret, Post.seq_exit, Post.seq_normal, Post.seq_pan]; try simp) | (refine T_loop (TL_round ?_)) | (refine TL_round ?_))
        refine C_mhead ?_
        repeat (first | (rw [afterRF_ret]; simp ) | with_reducible apply_assumption -exfalso -symm)
        repeat (first | (refine T_seqk fun K hK => ?_) | (refine T_reg tOK rfl ?_; simp [wr]) | (refine T_ret ?_; try simp) | (refine T_skip ?_; try simp) | (refine T_blockk fun K hK => ?_) | (with_reducible apply_assumption -exfalso -symm) | (rw [afterRF_ret]; simp [wr]) | (refine T_exit ?_; try simp) | (refine T_cond_t ?_ ?_; · (simp; done)) | (refine T_cond_f ?_ ?_; · (simp; done)) | (rintro _ _ (_ | _) hz9 <;> first | (simp; done) | (simp at hz9; done)) | (refine And.intro ?_ ?_) | (simp only [Post.block_ret, Post.block_exit, Post.block_normal, Post.block_pan, Post.seq_ret, Post.seq_exit, Post.seq_normal, Post.seq_pan]; try simp [wr]))
        refine C_new_ok n0 n1 ?_
        repeat (first | (rw [afterRF_ret]; simp ) | with_reducible apply_assumption -exfalso -symm)
        repeat (first | (refine T_seqk fun K hK => ?_) | (refine T_reg tOK rfl ?_; simp [hal,hbl,hil,g1,g2,g3]) | (refine T_ret ?_; try simp) | (refine T_skip ?_; try simp) | (refine T_blockk fun K hK => ?_) | (with_reducible apply_assumption -exfalso -symm) | (rw [afterRF_ret]; simp [hal,hbl,hil,g1,g2,g3]) | (refine T_exit ?_; try simp) | (refine T_cond_t ?_ ?_; · (simp; done)) | (refine T_cond_f ?_ ?_; · (simp; done)) | (rintro _ _ (_ | _) hz9 <;> first | (simp; done) | (simp at hz9; done)) | (refine And.intro ?_ ?_) | (simp only [Post.block_ret, Post.block_exit, Post.block_normal, Post.block_pan, Post.seq_ret, Post.seq_exit, Post.seq_normal, Post.seq_pan]; try simp [hal,hbl,hil,g1,g2,g3]))
      | false =>
        refine C_bodyk tOK Try.func7 rfl (Nat.le_of_ble_eq_true rfl) fun K hK => ?_; simp
        repeat (first | (refine T_seqk fun K hK => ?_) | (refine T_reg tOK rfl ?_; simp) | (refine T_ret ?_; try simp) | (refine T_skip ?_; try simp) | (refine T_blockk fun K hK => ?_) | (with_reducible apply_assumption -exfalso -symm) | (rw [afterRF_ret]; simp) | (refine T_exit ?_; try simp) | (refine T_cond_t ?_ ?_; · (simp; done)) | (refine T_cond_f ?_ ?_; · (simp; done)) | (rintro _ _ (_ | _) hz9 <;> first | (simp; done) | (simp at hz9; done)) | (refine And.intro ?_ ?_) | (simp only [Post.block_ret, Post.block_exit, Post.block_normal, Post.block_pan, Post.seq_ret, Post.seq_exit, Post.seq_normal, Post.seq_pan]; try simp) | (refine T_loop (TL_round ?_)) | (refine TL_round ?_))
        refine C_mhead ?_
        repeat (first | (rw [afterRF_ret]; simp ) | with_reducible apply_assumption -exfalso -symm)
        repeat (first | (refine T_seqk fun K hK => ?_) | (refine T_reg tOK rfl ?_; simp [wr]) | (refine T_ret ?_; try simp) | (refine T_skip ?_; try simp) | (refine T_blockk fun K hK => ?_) | (with_reducible apply_assumption -exfalso -symm) | (rw [afterRF_ret]; simp [wr]) | (refine T_exit ?_; try simp) | (refine T_cond_t ?_ ?_; · (simp; done)) | (refine T_cond_f ?_ ?_; · (simp; done)) | (rintro _ _ (_ | _) hz9 <;> first | (simp; done) | (simp at hz9; done)) | (refine And.intro ?_ ?_) | (simp only [Post.block_ret, Post.block_exit, Post.block_normal, Post.block_pan, Post.seq_ret, Post.seq_exit, Post.seq_normal, Post.seq_pan]; try simp [wr]))
        refine C_new_ok n0 n1 ?_
        repeat (first | (rw [afterRF_ret]; simp ) | with_reducible apply_assumption -exfalso -symm)
        refine T_seqkk [0, 1, 2, 3, 4, 5, 13, 14] [(0, .int .u8 room.toNat), (1, .lit (is a)), (2, .lit (is b)), (3, .int .u8 fuse.toNat), (4, .bool fail), (5, .lit (ints keep)), (13, .bool true), (14, .ptr 1 0 0 [])] (dS d0) (fun K hK => ?_) ?_
        · rw [← hst] at hK
          repeat (first | (refine T_seqk fun K hK => ?_) | (refine T_reg tOK rfl ?_; simp [hal,hbl,hil,g1,g2,g3,Fr.keep]) | (refine T_ret ?_; try simp) | (refine T_skip ?_; try simp) | (refine T_blockk fun K hK => ?_) | (with_reducible apply_assumption -exfalso -symm) | (rw [afterRF_ret]; simp [hal,hbl,hil,g1,g2,g3,Fr.keep]) | (refine T_exit ?_; try simp) | (refine T_cond_t ?_ ?_; · (simp; done)) | (refine T_cond_f ?_ ?_; · (simp; done)) | (rintro _ _ (_ | _) hz9 <;> first | (simp; done) | (simp at hz9; done)) | (refine And.intro ?_ ?_) | (simp only [Post.block_ret, Post.block_exit, Post.block_normal, Post.block_pan, Post.seq_ret, Post.seq_exit, Post.seq_normal, Post.seq_pan]; try simp [hal,hbl,hil,g1,g2,g3,Fr.keep]))
        obtain ⟨e1, he1⟩ : ∃ e1, (manSwap d0 a).1 = e1 := ⟨_, rfl⟩
        obtain ⟨d1, hd1⟩ : ∃ d1, (manSwap d0 a).2 = d1 := ⟨_, rfl⟩
        have i1 : Inv d1 := by rw [← hd1]; exact i0.swap
        cases z1 : (e1 == 0) with
        | false =>
          have z2 : (e1 != 0) = true := by simpa using z1
          repeat (first | (refine T_seqk fun K hK => ?_) | (refine T_reg tOK rfl ?_; simp) | (refine T_ret ?_; try simp) | (refine T_skip ?_; try simp) | (refine T_blockk fun K hK => ?_) | (with_reducible apply_assumption -exfalso -symm) | (rw [afterRF_ret]; simp) | (refine T_exit ?_; try simp) | (refine T_cond_t ?_ ?_; · (simp; done)) | (refine T_cond_f ?_ ?_; · (simp; done)) | (rintro _ _ (_ | _) hz9 <;> first | (simp; done) | (simp at hz9; done)) | (refine And.intro ?_ ?_) | (simp only [Post.block_ret, Post.block_exit, Post.block_normal, Post.block_pan, Post.seq_ret, Post.seq_exit, Post.seq_normal, Post.seq_pan]; try simp))
          refine C_swap_at (dS_at d0) i0 (by omega) ?_
          rw [dS_put, he1, hd1]
          repeat (first | (rw [afterRF_ret]; simp [z1,z2]) | with_reducible apply_assumption -exfalso -symm)
          repeat (first | (refine T_seqk fun K hK => ?_) | (refine T_reg tOK rfl ?_; simp [z1,z2]) | (refine T_ret ?_; try simp) | (refine T_skip ?_; try simp) | (refine T_blockk fun K hK => ?_) | (with_reducible apply_assumption -exfalso -symm) | (rw [afterRF_ret]; simp [z1,z2]) | (refine T_exit ?_; try simp) | (refine T_cond_t ?_ ?_; · (simp; done)) | (refine T_cond_f ?_ ?_; · (simp; done)) | (rintro _ _ (_ | _) hz9 <;> first | (simp; done) | (simp at hz9; done)) | (refine And.intro ?_ ?_) | (simp only [Post.block_ret, Post.block_exit, Post.block_normal, Post.block_pan, Post.seq_ret, Post.seq_exit, Post.seq_normal, Post.seq_pan]; try simp [z1,z2]))
        | true =>
          have z2 : e1 = 0 := by simpa using z1
          subst z2
          have hf := first_swap (a := a) (r := room.toNat) (by rw [← hd0]; exact he1)
          rw [← hd0, hd1] at hf
          obtain ⟨hok, f1, r1⟩ := hf
          refine T_seqkk [0, 1, 2, 3, 4, 5, 13, 14] [(0, .int .u8 room.toNat), (1, .lit (is a)), (2, .lit (is b)), (3, .int .u8 fuse.toNat), (4, .bool fail), (5, .lit (ints keep)), (13, .bool true), (14, .ptr 1 0 0 [])] (dS d1) (fun K hK => ?_) ?_
          · repeat (first | (refine T_seqk fun K hK => ?_) | (refine T_reg tOK rfl ?_; simp) | (refine T_ret ?_; try simp) | (refine T_skip ?_; try simp) | (refine T_blockk fun K hK => ?_) | (with_reducible apply_assumption -exfalso -symm) | (rw [afterRF_ret]; simp) | (refine T_exit ?_; try simp) | (refine T_cond_t ?_ ?_; · (simp; done)) | (refine T_cond_f ?_ ?_; · (simp; done)) | (rintro _ _ (_ | _) hz9 <;> first | (simp; done) | (simp at hz9; done)) | (refine And.intro ?_ ?_) | (simp only [Post.block_ret, Post.block_exit, Post.block_normal, Post.block_pan, Post.seq_ret, Post.seq_exit, Post.seq_normal, Post.seq_pan]; try simp))
            refine C_swap_at (dS_at d0) i0 (by omega) ?_
            rw [dS_put, he1, hd1]
            repeat (first | (rw [afterRF_ret]; simp ) | with_reducible apply_assumption -exfalso -symm)
            repeat (first | (refine T_seqk fun K hK => ?_) | (refine T_reg tOK rfl ?_; simp [Fr.keep]) | (refine T_ret ?_; try simp) | (refine T_skip ?_; try simp) | (refine T_blockk fun K hK => ?_) | (with_reducible apply_assumption -exfalso -symm) | (rw [afterRF_ret]; simp [Fr.keep]) | (refine T_exit ?_; try simp) | (refine T_cond_t ?_ ?_; · (simp; done)) | (refine T_cond_f ?_ ?_; · (simp; done)) | (rintro _ _ (_ | _) hz9 <;> first | (simp; done) | (simp at hz9; done)) | (refine And.intro ?_ ?_) | (simp only [Post.block_ret, Post.block_exit, Post.block_normal, Post.block_pan, Post.seq_ret, Post.seq_exit, Post.seq_normal, Post.seq_pan]; try simp [Fr.keep]))
          have wt : (fuse.toNat : Int).tmod 6 = ((fuse.toNat % 6 : Nat) : Int) := rfl
          have wk : IntKind.i64.wrap ((fuse.toNat % 6 : Nat) : Int) = ((fuse.toNat % 6 : Nat) : Int) := IntWalk.i64_in _ (by omega)
          push_cast at wk
          obtain ⟨d2, hd2⟩ : ∃ d2, d2 = if fuse.toNat < 200 then setFuse d1 ((fuse.toNat % 6 : Nat) : Int) else d1 := ⟨_, rfl⟩
          have i2 : Inv d2 := by rw [hd2]; split; exact i1.setFuse (by omega); exact i1
          have f2 : d2.files = rowF a := by rw [hd2]; split <;> exact f1
          have r2 : d2.room = room.toNat := by rw [hd2]; split <;> exact r1
          refine T_seqkk [0, 1, 2, 3, 4, 5, 13, 14] [(0, .int .u8 room.toNat), (1, .lit (is a)), (2, .lit (is b)), (3, .int .u8 fuse.toNat), (4, .bool fail), (5, .lit (ints keep)), (13, .bool true), (14, .ptr 1 0 0 [])] (dS d2) (fun K hK => ?_) ?_
          · cases hz : decide ((fuse.toNat : Int) < 200) with
            | true =>
              have hz' : fuse.toNat < 200 := by simp at hz; omega
              rw [if_pos hz'] at hd2
              rw [hd2] at hK
              repeat (first | (refine T_seqk fun K hK => ?_) | (refine T_reg tOK rfl ?_; simp [hz,wt,wk]) | (refine T_ret ?_; try simp) | (refine T_skip ?_; try simp) | (refine T_blockk fun K hK => ?_) | (with_reducible apply_assumption -exfalso -symm) | (rw [afterRF_ret]; simp [hz,wt,wk]) | (refine T_exit ?_; try simp) | (refine T_cond_t ?_ ?_; · (simp; done)) | (refine T_cond_f ?_ ?_; · (simp; done)) | (rintro _ _ (_ | _) hz9 <;> first | (simp; done) | (simp at hz9; done)) | (refine And.intro ?_ ?_) | (simp only [Post.block_ret, Post.block_exit, Post.block_normal, Post.block_pan, Post.seq_ret, Post.seq_exit, Post.seq_normal, Post.seq_pan]; try simp [hz,wt,wk]))
              refine C_fuse_at (dS_at d1) ?_
              try rw [dS_put]
              repeat (first | (rw [afterRF_ret]; simp ) | with_reducible apply_assumption -exfalso -symm)
              repeat (first | (refine T_seqk fun K hK => ?_) | (refine T_reg tOK rfl ?_; simp [Fr.keep]) | (refine T_ret ?_; try simp) | (refine T_skip ?_; try simp) | (refine T_blockk fun K hK => ?_) | (with_reducible apply_assumption -exfalso -symm) | (rw [afterRF_ret]; simp [Fr.keep]) | (refine T_exit ?_; try simp) | (refine T_cond_t ?_ ?_; · (simp; done)) | (refine T_cond_f ?_ ?_; · (simp; done)) | (rintro _ _ (_ | _) hz9 <;> first | (simp; done) | (simp at hz9; done)) | (refine And.intro ?_ ?_) | (simp only [Post.block_ret, Post.block_exit, Post.block_normal, Post.block_pan, Post.seq_ret, Post.seq_exit, Post.seq_normal, Post.seq_pan]; try simp [Fr.keep]))
            | false =>
              have hz' : ¬ fuse.toNat < 200 := by simp at hz; omega
              rw [if_neg hz'] at hd2
              rw [hd2] at hK
              repeat (first | (refine T_seqk fun K hK => ?_) | (refine T_reg tOK rfl ?_; simp [hz,Fr.keep]) | (refine T_ret ?_; try simp) | (refine T_skip ?_; try simp) | (refine T_blockk fun K hK => ?_) | (with_reducible apply_assumption -exfalso -symm) | (rw [afterRF_ret]; simp [hz,Fr.keep]) | (refine T_exit ?_; try simp) | (refine T_cond_t ?_ ?_; · (simp; done)) | (refine T_cond_f ?_ ?_; · (simp; done)) | (rintro _ _ (_ | _) hz9 <;> first | (simp; done) | (simp at hz9; done)) | (refine And.intro ?_ ?_) | (simp only [Post.block_ret, Post.block_exit, Post.block_normal, Post.block_pan, Post.seq_ret, Post.seq_exit, Post.seq_normal, Post.seq_pan]; try simp [hz,Fr.keep]))
          obtain ⟨d3, hd3⟩ : ∃ d3, d3 = if fail = true then setFail d2 1 else d2 := ⟨_, rfl⟩
          have i3 : Inv d3 := by rw [hd3]; split; exact i2.setFail (by omega); exact i2
          have f3 : d3.files = rowF a := by rw [hd3]; split <;> exact f2
          have r3 : d3.room = room.toNat := by rw [hd3]; split <;> exact r2
          refine T_seqkk [0, 1, 2, 3, 4, 5, 13, 14] [(0, .int .u8 room.toNat), (1, .lit (is a)), (2, .lit (is b)), (3, .int .u8 fuse.toNat), (4, .bool fail), (5, .lit (ints keep)), (13, .bool true), (14, .ptr 1 0 0 [])] (dS d3) (fun K hK => ?_) ?_
          · cases fail with
            | true =>
              rw [if_pos rfl] at hd3
              rw [hd3] at hK
              repeat (first | (refine T_seqk fun K hK => ?_) | (refine T_reg tOK rfl ?_; simp) | (refine T_ret ?_; try simp) | (refine T_skip ?_; try simp) | (refine T_blockk fun K hK => ?_) | (with_reducible apply_assumption -exfalso -symm) | (rw [afterRF_ret]; simp) | (refine T_exit ?_; try simp) | (refine T_cond_t ?_ ?_; · (simp; done)) | (refine T_cond_f ?_ ?_; · (simp; done)) | (rintro _ _ (_ | _) hz9 <;> first | (simp; done) | (simp at hz9; done)) | (refine And.intro ?_ ?_) | (simp only [Post.block_ret, Post.block_exit, Post.block_normal, Post.block_pan, Post.seq_ret, Post.seq_exit, Post.seq_normal, Post.seq_pan]; try simp))
              refine C_fail_at (dS_at d2) ?_
              try rw [dS_put]
              repeat (first | (rw [afterRF_ret]; simp ) | with_reducible apply_assumption -exfalso -symm)
              repeat (first | (refine T_seqk fun K hK => ?_) | (refine T_reg tOK rfl ?_; simp [Fr.keep]) | (refine T_ret ?_; try simp) | (refine T_skip ?_; try simp) | (refine T_blockk fun K hK => ?_) | (with_reducible apply_assumption -exfalso -symm) | (rw [afterRF_ret]; simp [Fr.keep]) | (refine T_exit ?_; try simp) | (refine T_cond_t ?_ ?_; · (simp; done)) | (refine T_cond_f ?_ ?_; · (simp; done)) | (rintro _ _ (_ | _) hz9 <;> first | (simp; done) | (simp at hz9; done)) | (refine And.intro ?_ ?_) | (simp only [Post.block_ret, Post.block_exit, Post.block_normal, Post.block_pan, Post.seq_ret, Post.seq_exit, Post.seq_normal, Post.seq_pan]; try simp [Fr.keep]))
            | false =>
              rw [if_neg (by simp)] at hd3
              rw [hd3] at hK
              repeat (first | (refine T_seqk fun K hK => ?_) | (refine T_reg tOK rfl ?_; simp [Fr.keep]) | (refine T_ret ?_; try simp) | (refine T_skip ?_; try simp) | (refine T_blockk fun K hK => ?_) | (with_reducible apply_assumption -exfalso -symm) | (rw [afterRF_ret]; simp [Fr.keep]) | (refine T_exit ?_; try simp) | (refine T_cond_t ?_ ?_; · (simp; done)) | (refine T_cond_f ?_ ?_; · (simp; done)) | (rintro _ _ (_ | _) hz9 <;> first | (simp; done) | (simp at hz9; done)) | (refine And.intro ?_ ?_) | (simp only [Post.block_ret, Post.block_exit, Post.block_normal, Post.block_pan, Post.seq_ret, Post.seq_exit, Post.seq_normal, Post.seq_pan]; try simp [Fr.keep]))
          obtain ⟨r4, ends⟩ := swap_ends (b := b) f3
          obtain ⟨e4, he4⟩ : ∃ e4, (manSwap d3 b).1 = e4 := ⟨_, rfl⟩
          obtain ⟨d4, hd4⟩ : ∃ d4, (manSwap d3 b).2 = d4 := ⟨_, rfl⟩
          have i4 : Inv d4 := by rw [← hd4]; exact i3.swap
          repeat (first | (refine T_seqk fun K hK => ?_) | (refine T_reg tOK rfl ?_; simp) | (refine T_ret ?_; try simp) | (refine T_skip ?_; try simp) | (refine T_blockk fun K hK => ?_) | (with_reducible apply_assumption -exfalso -symm) | (rw [afterRF_ret]; simp) | (refine T_exit ?_; try simp) | (refine T_cond_t ?_ ?_; · (simp; done)) | (refine T_cond_f ?_ ?_; · (simp; done)) | (rintro _ _ (_ | _) hz9 <;> first | (simp; done) | (simp at hz9; done)) | (refine And.intro ?_ ?_) | (simp only [Post.block_ret, Post.block_exit, Post.block_normal, Post.block_pan, Post.seq_ret, Post.seq_exit, Post.seq_normal, Post.seq_pan]; try simp))
          refine C_swap_at (dS_at d3) i3 (by omega) ?_
          rw [dS_put]
          rw [he4, hd4] at ends ⊢
          rw [hd4] at r4
          repeat (first | (rw [afterRF_ret]; simp ) | with_reducible apply_assumption -exfalso -symm)
          repeat (first | (refine T_seqk fun K hK => ?_) | (refine T_reg tOK rfl ?_; simp) | (refine T_ret ?_; try simp) | (refine T_skip ?_; try simp) | (refine T_blockk fun K hK => ?_) | (with_reducible apply_assumption -exfalso -symm) | (rw [afterRF_ret]; simp) | (refine T_exit ?_; try simp) | (refine T_cond_t ?_ ?_; · (simp; done)) | (refine T_cond_f ?_ ?_; · (simp; done)) | (rintro _ _ (_ | _) hz9 <;> first | (simp; done) | (simp at hz9; done)) | (refine And.intro ?_ ?_) | (simp only [Post.block_ret, Post.block_exit, Post.block_normal, Post.block_pan, Post.seq_ret, Post.seq_exit, Post.seq_normal, Post.seq_pan]; try simp))
          refine C_load_at (dS_at d4) i4 ?_
          rcases ends with ⟨rfl, f4⟩ | ⟨he0, f4⟩
          · have hob : okL b = true := by
              cases hq : okL b with
              | true => rfl
              | false => rw [row_bad hq] at he4; simp at he4
            have f4' : FA b d4.files := .inl f4
            rw [f4'.load hob]
            repeat (first | (rw [afterRF_ret]; simp ) | with_reducible apply_assumption -exfalso -symm)
            repeat (first | (refine T_seqk fun K hK => ?_) | (refine T_reg tOK rfl ?_; simp) | (refine T_ret ?_; try simp) | (refine T_skip ?_; try simp) | (refine T_blockk fun K hK => ?_) | (with_reducible apply_assumption -exfalso -symm) | (rw [afterRF_ret]; simp) | (refine T_exit ?_; try simp) | (refine T_cond_t ?_ ?_; · (simp; done)) | (refine T_cond_f ?_ ?_; · (simp; done)) | (rintro _ _ (_ | _) hz9 <;> first | (simp; done) | (simp at hz9; done)) | (refine And.intro ?_ ?_) | (simp only [Post.block_ret, Post.block_exit, Post.block_normal, Post.block_pan, Post.seq_ret, Post.seq_exit, Post.seq_normal, Post.seq_pan]; try simp))
            refine C_crash_at (dS_at d4) i4 hkp hkl ?_
            try rw [dS_put]
            have f5 := f4'.crash hob keep
            have i5 : Inv (crash d4 keep) := i4.crash
            repeat (first | (rw [afterRF_ret]; simp ) | with_reducible apply_assumption -exfalso -symm)
            repeat (first | (refine T_seqk fun K hK => ?_) | (refine T_reg tOK rfl ?_; simp) | (refine T_ret ?_; try simp) | (refine T_skip ?_; try simp) | (refine T_blockk fun K hK => ?_) | (with_reducible apply_assumption -exfalso -symm) | (rw [afterRF_ret]; simp) | (refine T_exit ?_; try simp) | (refine T_cond_t ?_ ?_; · (simp; done)) | (refine T_cond_f ?_ ?_; · (simp; done)) | (rintro _ _ (_ | _) hz9 <;> first | (simp; done) | (simp at hz9; done)) | (refine And.intro ?_ ?_) | (simp only [Post.block_ret, Post.block_exit, Post.block_normal, Post.block_pan, Post.seq_ret, Post.seq_exit, Post.seq_normal, Post.seq_pan]; try simp))
            refine C_load_at (dS_at _) i5 ?_
            rw [f5.load hob]
            repeat (first | (rw [afterRF_ret]; simp ) | with_reducible apply_assumption -exfalso -symm)
            repeat (first | (refine T_seqk fun K hK => ?_) | (refine T_reg tOK rfl ?_; simp) | (refine T_ret ?_; try simp) | (refine T_skip ?_; try simp) | (refine T_blockk fun K hK => ?_) | (with_reducible apply_assumption -exfalso -symm) | (rw [afterRF_ret]; simp) | (refine T_exit ?_; try simp) | (refine T_cond_t ?_ ?_; · (simp; done)) | (refine T_cond_f ?_ ?_; · (simp; done)) | (rintro _ _ (_ | _) hz9 <;> first | (simp; done) | (simp at hz9; done)) | (refine And.intro ?_ ?_) | (simp only [Post.block_ret, Post.block_exit, Post.block_normal, Post.block_pan, Post.seq_ret, Post.seq_exit, Post.seq_normal, Post.seq_pan]; try simp))
            refine C_samei (by omega) (by omega) ?_
            rw [show (b == b) = true by simp]
            repeat (first | (rw [afterRF_ret]; simp ) | with_reducible apply_assumption -exfalso -symm)
            repeat (first | (refine T_seqk fun K hK => ?_) | (refine T_reg tOK rfl ?_; simp) | (refine T_ret ?_; try simp) | (refine T_skip ?_; try simp) | (refine T_blockk fun K hK => ?_) | (with_reducible apply_assumption -exfalso -symm) | (rw [afterRF_ret]; simp) | (refine T_exit ?_; try simp) | (refine T_cond_t ?_ ?_; · (simp; done)) | (refine T_cond_f ?_ ?_; · (simp; done)) | (rintro _ _ (_ | _) hz9 <;> first | (simp; done) | (simp at hz9; done)) | (refine And.intro ?_ ?_) | (simp only [Post.block_ret, Post.block_exit, Post.block_normal, Post.block_pan, Post.seq_ret, Post.seq_exit, Post.seq_normal, Post.seq_pan]; try simp))
            refine C_samei (by omega) (by omega) ?_
            rw [show (b == b) = true by simp]
            repeat (first | (rw [afterRF_ret]; simp ) | with_reducible apply_assumption -exfalso -symm)
            repeat (first | (refine T_seqk fun K hK => ?_) | (refine T_reg tOK rfl ?_; simp) | (refine T_ret ?_; try simp) | (refine T_skip ?_; try simp) | (refine T_blockk fun K hK => ?_) | (with_reducible apply_assumption -exfalso -symm) | (rw [afterRF_ret]; simp) | (refine T_exit ?_; try simp) | (refine T_cond_t ?_ ?_; · (simp; done)) | (refine T_cond_f ?_ ?_; · (simp; done)) | (rintro _ _ (_ | _) hz9 <;> first | (simp; done) | (simp at hz9; done)) | (refine And.intro ?_ ?_) | (simp only [Post.block_ret, Post.block_exit, Post.block_normal, Post.block_pan, Post.seq_ret, Post.seq_exit, Post.seq_normal, Post.seq_pan]; try simp))
          · have z4 : (e4 == 0) = false := by simpa using he0
            rw [f4.load hok]
            repeat (first | (rw [afterRF_ret]; simp ) | with_reducible apply_assumption -exfalso -symm)
            repeat (first | (refine T_seqk fun K hK => ?_) | (refine T_reg tOK rfl ?_; simp) | (refine T_ret ?_; try simp) | (refine T_skip ?_; try simp) | (refine T_blockk fun K hK => ?_) | (with_reducible apply_assumption -exfalso -symm) | (rw [afterRF_ret]; simp) | (refine T_exit ?_; try simp) | (refine T_cond_t ?_ ?_; · (simp; done)) | (refine T_cond_f ?_ ?_; · (simp; done)) | (rintro _ _ (_ | _) hz9 <;> first | (simp; done) | (simp at hz9; done)) | (refine And.intro ?_ ?_) | (simp only [Post.block_ret, Post.block_exit, Post.block_normal, Post.block_pan, Post.seq_ret, Post.seq_exit, Post.seq_normal, Post.seq_pan]; try simp))
            refine C_crash_at (dS_at d4) i4 hkp hkl ?_
            try rw [dS_put]
            have f5 := f4.crash hok keep
            have i5 : Inv (crash d4 keep) := i4.crash
            have g5 : (crash d4 keep).fuse = -1 := rfl
            have l5 : (crash d4 keep).fail = 0 := rfl
            have r5 : (crash d4 keep).room = room.toNat := r4.trans r3
            generalize crash d4 keep = d5 at f5 i5 g5 l5 r5 ⊢
            repeat (first | (rw [afterRF_ret]; simp ) | with_reducible apply_assumption -exfalso -symm)
            repeat (first | (refine T_seqk fun K hK => ?_) | (refine T_reg tOK rfl ?_; simp) | (refine T_ret ?_; try simp) | (refine T_skip ?_; try simp) | (refine T_blockk fun K hK => ?_) | (with_reducible apply_assumption -exfalso -symm) | (rw [afterRF_ret]; simp) | (refine T_exit ?_; try simp) | (refine T_cond_t ?_ ?_; · (simp; done)) | (refine T_cond_f ?_ ?_; · (simp; done)) | (rintro _ _ (_ | _) hz9 <;> first | (simp; done) | (simp at hz9; done)) | (refine And.intro ?_ ?_) | (simp only [Post.block_ret, Post.block_exit, Post.block_normal, Post.block_pan, Post.seq_ret, Post.seq_exit, Post.seq_normal, Post.seq_pan]; try simp))
            refine C_load_at (dS_at d5) i5 ?_
            rw [f5.load hok]
            repeat (first | (rw [afterRF_ret]; simp ) | with_reducible apply_assumption -exfalso -symm)
            repeat (first | (refine T_seqk fun K hK => ?_) | (refine T_reg tOK rfl ?_; simp) | (refine T_ret ?_; try simp) | (refine T_skip ?_; try simp) | (refine T_blockk fun K hK => ?_) | (with_reducible apply_assumption -exfalso -symm) | (rw [afterRF_ret]; simp) | (refine T_exit ?_; try simp) | (refine T_cond_t ?_ ?_; · (simp; done)) | (refine T_cond_f ?_ ?_; · (simp; done)) | (rintro _ _ (_ | _) hz9 <;> first | (simp; done) | (simp at hz9; done)) | (refine And.intro ?_ ?_) | (simp only [Post.block_ret, Post.block_exit, Post.block_normal, Post.block_pan, Post.seq_ret, Post.seq_exit, Post.seq_normal, Post.seq_pan]; try simp))
            refine C_samei (by omega) (by omega) ?_
            rw [show (a == a) = true by simp]
            repeat (first | (rw [afterRF_ret]; simp ) | with_reducible apply_assumption -exfalso -symm)
            repeat (first | (refine T_seqk fun K hK => ?_) | (refine T_reg tOK rfl ?_; simp [z4]) | (refine T_ret ?_; try simp) | (refine T_skip ?_; try simp) | (refine T_blockk fun K hK => ?_) | (with_reducible apply_assumption -exfalso -symm) | (rw [afterRF_ret]; simp [z4]) | (refine T_exit ?_; try simp) | (refine T_cond_t ?_ ?_; · (simp; done)) | (refine T_cond_f ?_ ?_; · (simp; done)) | (rintro _ _ (_ | _) hz9 <;> first | (simp; done) | (simp at hz9; done)) | (refine And.intro ?_ ?_) | (simp only [Post.block_ret, Post.block_exit, Post.block_normal, Post.block_pan, Post.seq_ret, Post.seq_exit, Post.seq_normal, Post.seq_pan]; try simp [z4]))
            refine C_samei (by omega) (by omega) ?_
            rw [show (a == a) = true by simp]
            repeat (first | (rw [afterRF_ret]; simp [z4]) | with_reducible apply_assumption -exfalso -symm)
            repeat (first | (refine T_seqk fun K hK => ?_) | (refine T_reg tOK rfl ?_; simp [z4]) | (refine T_ret ?_; try simp) | (refine T_skip ?_; try simp) | (refine T_blockk fun K hK => ?_) | (with_reducible apply_assumption -exfalso -symm) | (rw [afterRF_ret]; simp [z4]) | (refine T_exit ?_; try simp) | (refine T_cond_t ?_ ?_; · (simp; done)) | (refine T_cond_f ?_ ?_; · (simp; done)) | (rintro _ _ (_ | _) hz9 <;> first | (simp; done) | (simp at hz9; done)) | (refine And.intro ?_ ?_) | (simp only [Post.block_ret, Post.block_exit, Post.block_normal, Post.block_pan, Post.seq_ret, Post.seq_exit, Post.seq_normal, Post.seq_pan]; try simp [z4]))
            refine C_swap_at (dS_at d5) i5 (by omega) ?_
            rw [dS_put]
            have i6 : Inv (manSwap d5 b).2 := i5.swap
            cases hob : okL b with
            | false =>
              rw [row_bad hob]
              repeat (first | (rw [afterRF_ret]; simp ) | with_reducible apply_assumption -exfalso -symm)
              repeat (first | (refine T_seqk fun K hK => ?_) | (refine T_reg tOK rfl ?_; simp) | (refine T_ret ?_; try simp) | (refine T_skip ?_; try simp) | (refine T_blockk fun K hK => ?_) | (with_reducible apply_assumption -exfalso -symm) | (rw [afterRF_ret]; simp) | (refine T_exit ?_; try simp) | (refine T_cond_t ?_ ?_; · (simp; done)) | (refine T_cond_f ?_ ?_; · (simp; done)) | (rintro _ _ (_ | _) hz9 <;> first | (simp; done) | (simp at hz9; done)) | (refine And.intro ?_ ?_) | (simp only [Post.block_ret, Post.block_exit, Post.block_normal, Post.block_pan, Post.seq_ret, Post.seq_exit, Post.seq_normal, Post.seq_pan]; try simp))
              refine C_right (by omega) ?_
              rw [hob]
              repeat (first | (rw [afterRF_ret]; simp ) | with_reducible apply_assumption -exfalso -symm)
              repeat (first | (refine T_seqk fun K hK => ?_) | (refine T_reg tOK rfl ?_; simp) | (refine T_ret ?_; try simp) | (refine T_skip ?_; try simp) | (refine T_blockk fun K hK => ?_) | (with_reducible apply_assumption -exfalso -symm) | (rw [afterRF_ret]; simp) | (refine T_exit ?_; try simp) | (refine T_cond_t ?_ ?_; · (simp; done)) | (refine T_cond_f ?_ ?_; · (simp; done)) | (rintro _ _ (_ | _) hz9 <;> first | (simp; done) | (simp at hz9; done)) | (refine And.intro ?_ ?_) | (simp only [Post.block_ret, Post.block_exit, Post.block_normal, Post.block_pan, Post.seq_ret, Post.seq_exit, Post.seq_normal, Post.seq_pan]; try simp))
            | true =>
              have hagain := swap_again hok hob f5 g5 l5
              rw [r5] at hagain
              obtain ⟨e6, he6⟩ : ∃ e6, (manSwap d5 b).1 = e6 := ⟨_, rfl⟩
              obtain ⟨d6, hd6⟩ : ∃ d6, (manSwap d5 b).2 = d6 := ⟨_, rfl⟩
              rw [he6, hd6] at hagain ⊢
              rw [hd6] at i6
              cases z6 : (e6 == 0) with
              | true =>
                repeat (first | (rw [afterRF_ret]; simp [z6]) | with_reducible apply_assumption -exfalso -symm)
                repeat (first | (refine T_seqk fun K hK => ?_) | (refine T_reg tOK rfl ?_; simp [z6]) | (refine T_ret ?_; try simp) | (refine T_skip ?_; try simp) | (refine T_blockk fun K hK => ?_) | (with_reducible apply_assumption -exfalso -symm) | (rw [afterRF_ret]; simp [z6]) | (refine T_exit ?_; try simp) | (refine T_cond_t ?_ ?_; · (simp; done)) | (refine T_cond_f ?_ ?_; · (simp; done)) | (rintro _ _ (_ | _) hz9 <;> first | (simp; done) | (simp at hz9; done)) | (refine And.intro ?_ ?_) | (simp only [Post.block_ret, Post.block_exit, Post.block_normal, Post.block_pan, Post.seq_ret, Post.seq_exit, Post.seq_normal, Post.seq_pan]; try simp [z6]))
              | false =>
                have z7 : ¬ e6 = 0 := by simpa using z6
                have hag : (room.toNat : Int) < 2 * (used d6.files : Int) + 200 := by
                  rcases hagain with h | h
                  · exact absurd h z7
                  · exact h
                have hu : used d6.files < 1000000000 := by
                  have a1 := i6.fit
                  have a2 := i6.room1
                  omega
                have w1 : IntKind.i64.wrap (2 * (used d6.files : Int)) = 2 * (used d6.files : Int) := IntWalk.i64_in _ (by omega)
                have w2 : IntKind.i64.wrap (2 * (used d6.files : Int) + 200) = 2 * (used d6.files : Int) + 200 := IntWalk.i64_in _ (by omega)
                have w3 : decide ((room.toNat : Int) < 2 * (used d6.files : Int) + 200) = true := decide_eq_true hag
                clear hagain z7
                repeat (first | (rw [afterRF_ret]; simp [z6]) | with_reducible apply_assumption -exfalso -symm)
                repeat (first | (refine T_seqk fun K hK => ?_) | (refine T_reg tOK rfl ?_; simp [z6]) | (refine T_ret ?_; try simp) | (refine T_skip ?_; try simp) | (refine T_blockk fun K hK => ?_) | (with_reducible apply_assumption -exfalso -symm) | (rw [afterRF_ret]; simp [z6]) | (refine T_exit ?_; try simp) | (refine T_cond_t ?_ ?_; · (simp; done)) | (refine T_cond_f ?_ ?_; · (simp; done)) | (rintro _ _ (_ | _) hz9 <;> first | (simp; done) | (simp at hz9; done)) | (refine And.intro ?_ ?_) | (simp only [Post.block_ret, Post.block_exit, Post.block_normal, Post.block_pan, Post.seq_ret, Post.seq_exit, Post.seq_normal, Post.seq_pan]; try simp [z6]))
                refine C_right (by omega) ?_
                rw [hob]
                repeat (first | (rw [afterRF_ret]; simp [z6]) | with_reducible apply_assumption -exfalso -symm)
                repeat (first | (refine T_seqk fun K hK => ?_) | (refine T_reg tOK rfl ?_; simp [z6]) | (refine T_ret ?_; try simp) | (refine T_skip ?_; try simp) | (refine T_blockk fun K hK => ?_) | (with_reducible apply_assumption -exfalso -symm) | (rw [afterRF_ret]; simp [z6]) | (refine T_exit ?_; try simp) | (refine T_cond_t ?_ ?_; · (simp; done)) | (refine T_cond_f ?_ ?_; · (simp; done)) | (rintro _ _ (_ | _) hz9 <;> first | (simp; done) | (simp at hz9; done)) | (refine And.intro ?_ ?_) | (simp only [Post.block_ret, Post.block_exit, Post.block_normal, Post.block_pan, Post.seq_ret, Post.seq_exit, Post.seq_normal, Post.seq_pan]; try simp [z6]))
                refine C_used_at (dS_at d6) hu ?_
                repeat (first | (rw [afterRF_ret]; simp [z6,w1,w2,w3,wr]) | with_reducible apply_assumption -exfalso -symm)
                repeat (first | (refine T_seqk fun K hK => ?_) | (refine T_reg tOK rfl ?_; simp [z6,w1,w2,w3,wr]) | (refine T_ret ?_; try simp) | (refine T_skip ?_; try simp) | (refine T_blockk fun K hK => ?_) | (with_reducible apply_assumption -exfalso -symm) | (rw [afterRF_ret]; simp [z6,w1,w2,w3,wr]) | (refine T_exit ?_; try simp) | (refine T_cond_t ?_ ?_; · (simp; done)) | (refine T_cond_f ?_ ?_; · (simp; done)) | (rintro _ _ (_ | _) hz9 <;> first | (simp; done) | (simp at hz9; done)) | (refine And.intro ?_ ?_) | (simp only [Post.block_ret, Post.block_exit, Post.block_normal, Post.block_pan, Post.seq_ret, Post.seq_exit, Post.seq_normal, Post.seq_pan]; try simp [z6,w1,w2,w3,wr]))
end
end Go.Proofs.Ytphhcpdkemagiaa
end
section
/- From the logic to the statements: what is handed in, and what is asked of the end. -/
set_option linter.unusedVariables false
set_option linter.unusedSimpArgs false
set_option maxRecDepth 4000
namespace Go.Proofs.Ytphhcpdkemagiaa
open Go Go.ChangeShapes Go.RowKit

theorem Try.own : ownKnob Try.prog.godebug = none := by kernel_rfl
theorem Try.laidOut : laidOutB Try.prog = true := by kernel_rfl

section
variable {H : Type} {enc : TypeId × Value → H}
/-- An argument, as a value of the logic's. -/
theorem arg_V {W : World} {sp : Nat → Bool} {held : Bool} {t : TypeId} {v : Value} {d : DataW H} {ps : List MemPlace} {base : Nat} (n : Nat) (hs : simpleT tE n t = true) (hst : ∀ fs, tE.P.underlying t ≠ some (.struct fs)) (harr : ∀ m e, tE.P.underlying t ≠ some (.array m e))
    (hok : Value.okWide tE.P W .any base t v) (h : DataW.Trod enc tE.P W 0 sp held t v d ps) : ∃ x, V tE (cx0 W) x v ∧ Dat tE n t x := by
  obtain ⟨fuel, h⟩ := h
  obtain ⟨x, h1, h2, h3⟩ := trod_VC tOK W fuel n t _ d ps hs h
  have hk := simple_kn hs
  obtain ⟨td, hu, hag⟩ := tOK.und t hk
  have hna : tE.agg t = false := by
    rw [hag]
    cases td <;> first | rfl | (exact absurd hu (hst _)) | (exact absurd hu (harr _ _))
  have hcell : Cell.okWide tE.P W .any base t v := by
    unfold Value.okWide at hok
    rw [hu] at hok
    cases td <;> first | exact hok | (exact absurd hu (hst _)) | (exact absurd hu (harr _ _))
  have hnagg : ∀ cs, v ≠ .agg cs := fun cs e => by
    subst e
    have h5 : Cell.ok tE.P W .any base t (.agg cs) → False := fun hc => by
      unfold Cell.ok at hc
      rw [hu] at hc
      cases td <;> exact hc
    unfold Cell.okWide at hcell
    rw [hu] at hcell
    cases td <;> exact h5 hcell
  have hone : v.cells = #[v] := by
    cases v with
    | agg cs => exact absurd rfl (hnagg cs)
    | _ => rfl
  rw [hone] at h1
  refine ⟨x, V_one h1 (fun t' fs e => ?_), h3⟩
  subst e
  simp only [fits, Bool.and_eq_true, hna] at h2
  exact absurd h2.2 (by simp)

theorem trodAll_stays {W W' : World} (hb : Below W.heap.size W W') : ∀ {ts : List TypeId} {vs : List Value} {ds : List (DataW H)} {ps : List MemPlace}, (∀ t ∈ ts, Try.prog.readableRec t = true ∧ t < Try.prog.types.size) →
    DataW.TrodAll enc Try.prog W 0 (fun _ => true) true ts vs ds ps → (∀ x ∈ ps, x.block < W.heap.size) → DataW.TrodAll enc Try.prog W' 0 (fun b => decide (b < W.heap.size)) true ts vs ds ps
  | [], [], [], ps, _, h, _ => h
  | t :: ts, v :: vs, d :: ds, ps, ht, h, hl => by
    obtain ⟨p, q, h1, h2, rfl⟩ := h
    obtain ⟨k1, k2⟩ := ht t (by simp)
    exact ⟨p, q, Below.trod Try.laidOut k1 k2 h1 hb (fun x hx => hl x (by simp [hx])), trodAll_stays hb (fun t ht' => ht t (by simp [ht'])) h2 (fun x hx => hl x (by simp [hx])), rfl⟩
  | [], _ :: _, _, _, _, h, _ => h.elim
  | [], [], _ :: _, _, _, h, _ => h.elim
  | _ :: _, [], _, _, _, h, _ => h.elim
  | _ :: _, _ :: _, [], _, _, h, _ => h.elim

theorem law_post {s : ChangeSpec} {fn : Func} {W W' : World} {args : Array Value} {ds gs : List (DataW H)} {before : List MemPlace} {fresh : Bool} (hW : DataW.Whole enc Try.prog fn.params.toList s.vars false W args.toList ds gs before) (hb : Below W.heap.size W W')
    (hvars : s.vars = []) (hs : s.fn H (ds ++ gs) = { results := [.lit (.bool true)], args := ds }) (hr : fn.resultTypes = #[4]) (hread : fn.params.toList.all (fun t => Try.prog.readableRec t && decide (t < Try.prog.types.size)) = true) :
    s.post enc Try.prog fn false fresh false false W args (.bool true) W' := by
  have hW' := hW
  obtain ⟨p, q, h1, h2, rfl, h3, h4⟩ := hW
  have hlt := fun x hx => hW'.lt x hx
  have hbool : Try.prog.underlying 4 = some .bool := tOK.td 4 rfl
  refine ⟨ds, gs, p ++ q, [], p, [], hW', ?_, ?_, ?_, ?_, by simp⟩
  · rw [hs, hr]
    cases fresh <;> exact trodAll_mk1 (shut_bool hbool true)
  · rw [hs]
    exact trodAll_stays hb (fun t ht => by simpa using List.all_eq_true.1 hread t ht) h1 (fun x hx => hlt x (by simp [hx]))
  · rw [hvars, hs]; rfl
  · refine ⟨hb.os, hb.output, fun i hi => ?_⟩
    rw [hb.block i hi]
    exact (World.keptBut_refl W (fun x => x ∈ p ++ q ∧ (x ∈ ([] : List MemPlace) ∨ x ∈ p ∨ x ∈ ([] : List MemPlace)))).2.2 i hi

/-- A law that answers true, whatever it is called with. -/
theorem law_calls {f : FuncId} {xs : List PV} {W : World} {args : Array Value} (hv : VL tE (cx0 W) xs args.toList) (hC : ∀ R : Re → Store → Prop, (∀ σ, R (.ret (.bool true)) σ) → C tE f xs [] R) :
    Calls Try.prog f args W fun e W' => e = .returned (.bool true) ∧ Below W.heap.size W W' := by
  have := hC (fun re _ => re = .ret (.bool true)) (fun _ => rfl) (cx0 W) args (Now.cx0 W) hv
  refine Calls.mono this ?_
  rintro e w' ⟨re, σ', cx', rfl, rfl, hre, hn, hs⟩
  refine ⟨?_, ⟨hs.os, hs.tape, hs.output, hs.size, fun k hk => hs.keeps k hk⟩⟩
  cases e <;> simp only [ReOK] at hre
  have := V.bool_inv hre
  rw [this]

theorem dat_int {n : Nat} {x : PV} (h : Dat tE (n + 1) 3 x) : ∃ k, x = i64 k ∧ -9223372036854775808 ≤ k ∧ k ≤ 9223372036854775807 := by
  obtain ⟨k, rfl, hw⟩ := (h : ∃ i, x = .int .i64 i ∧ (Lit.int .i64 i).wf = true)
  refine ⟨k, rfl, ?_⟩
  simp [Lit.wf, IntKind.has, IntKind.min, IntKind.max, IntKind.signed, IntKind.bits] at hw
  omega
theorem dat_u8 {n : Nat} {x : PV} (h : Dat tE (n + 1) 5 x) : ∃ k : UInt8, x = .int .u8 k.toNat := by
  obtain ⟨k, rfl, hw⟩ := (h : ∃ i, x = .int .u8 i ∧ (Lit.int .u8 i).wf = true)
  simp [Lit.wf, IntKind.has, IntKind.min, IntKind.max, IntKind.signed, IntKind.bits] at hw
  refine ⟨UInt8.ofNat k.toNat, ?_⟩
  have : (UInt8.ofNat k.toNat).toNat = k.toNat := by simp; omega
  rw [this]
  congr 1; omega
theorem dat_str {n : Nat} {x : PV} (h : Dat tE (n + 1) 9 x) : ∃ s : ByteArray, x = .str s ∧ s.size ≤ maxLen := h
theorem dat_list {n : Nat} {e t : TypeId} {x : PV} {α : Type} {f : α → PV} {P : α → Prop} (h : ∃ xs, x = .lit xs ∧ xs.length ≤ maxLen ∧ ∀ y ∈ xs, Dat tE n e y) (hf : ∀ y, Dat tE n e y → ∃ a, y = f a ∧ P a) :
    ∃ l : List α, x = .lit (l.map f) ∧ l.length ≤ maxLen ∧ ∀ a ∈ l, P a := by
  obtain ⟨xs, rfl, hl, hx⟩ := h
  have : ∃ l : List α, xs = l.map f ∧ ∀ a ∈ l, P a := by
    clear hl
    induction xs with
    | nil => exact ⟨[], rfl, by simp⟩
    | cons y ys ih =>
      obtain ⟨a, rfl, ha⟩ := hf y (hx y (by simp))
      obtain ⟨l, rfl, hl⟩ := ih fun y hy => hx y (by simp [hy])
      exact ⟨a :: l, rfl, fun b hb => by rcases List.mem_cons.1 hb with rfl | hb; exact ha; exact hl b hb⟩
  obtain ⟨l, rfl, h2⟩ := this
  exact ⟨l, rfl, by simpa using hl, h2⟩
theorem dat_bytes {n : Nat} {x : PV} (h : Dat tE (n + 2) 23 x) : ∃ l : List UInt8, x = u8s l ∧ l.length ≤ maxLen := by
  obtain ⟨l, rfl, h1, _⟩ := dat_list (t := 0) (f := fun b : UInt8 => PV.int .u8 b.toNat) (P := fun _ => True) (h : ∃ xs, x = .lit xs ∧ xs.length ≤ maxLen ∧ ∀ y ∈ xs, Dat tE (n + 1) 5 y) (fun y hy => by
    obtain ⟨k, rfl⟩ := dat_u8 hy
    exact ⟨k, rfl, trivial⟩)
  exact ⟨l, rfl, h1⟩
theorem dat_ints {n : Nat} {x : PV} (h : Dat tE (n + 2) 44 x) : ∃ l : List Int, x = .lit (ints l) ∧ l.length ≤ maxLen ∧ ∀ k ∈ l, -9223372036854775808 ≤ k ∧ k ≤ 9223372036854775807 :=
  dat_list (t := 0) (f := i64) (P := fun k => -9223372036854775808 ≤ k ∧ k ≤ 9223372036854775807) (h : ∃ xs, x = .lit xs ∧ xs.length ≤ maxLen ∧ ∀ y ∈ xs, Dat tE (n + 1) 3 y) (fun y hy => dat_int hy)
end
end Go.Proofs.Ytphhcpdkemagiaa
end
