/- ManifestRight: the walk. -/
import Derived.Test.YtphhcpdkemagiaaXh
import Derived.Test.YtphhcpdkemagiaaXd
import Derived.Test.YtphhcpdkemagiaaRows
import Derived.ProofKit
section
set_option linter.unusedVariables false
set_option linter.unusedSimpArgs false
set_option maxRecDepth 20000
namespace Go.Proofs.Ytphhcpdkemagiaa
open Go
attribute [local simp] RF_nil RF_cons afterRF_ret nilCmp sop sGuard isCall sCallee Fr.eval Fr.get Fr.put ofConst sLoad sStore sBuiltin Fr.args bodyQ sRes oneOf sBin sInt sUn
attribute [local simp] RD_nil RD_cons noConf clear accAdd Tab.pr Tab.slot foot wid idOf refId Op.operands Call.operands sFieldAddr sNilCheck sLookup keyLit sMapSet sMapDel sLen Store.at Store.new getP setP typeAt fits evalParts sBuildSlice sFill sList sApp sAppend frzRe frz pureB pureL
attribute [local simp] optEval sSlice sIndexAddr xop sClear

/-- Whether the first k numbers are right. -/
def wk (l : List Int) (k : Nat) : Bool := decide (1 ≤ l.length) && decide (l.length ≤ 40) && (l.take k).all inB && rises (l.take k)
theorem rises_snoc : ∀ {l : List Int} {x : Int}, rises (l ++ [x]) = (rises l && (l.isEmpty || decide (l.getLastD 0 < x)))
  | [], x => by simp [rises]
  | [a], x => by simp [rises]
  | a :: b :: l, x => by
    have ih := rises_snoc (l := b :: l) (x := x)
    simp only [List.cons_append] at ih ⊢
    simp only [rises, ih, List.isEmpty_cons, Bool.false_or, Bool.and_assoc]
    simp
theorem wk_zero {l : List Int} : wk l 0 = (decide (1 ≤ l.length) && decide (l.length ≤ 40)) := by simp [wk, rises]
theorem wk_full {l : List Int} : wk l l.length = okL l := by
  unfold wk okL
  rw [List.take_length]
  rfl
theorem wk_succ0 {l : List Int} (h : 0 < l.length) : wk l 1 = (wk l 0 && inB l[0]) := by
  cases l with
  | nil => simp at h
  | cons a l => simp [wk, rises]
theorem wk_succ {l : List Int} {k : Nat} (h : k + 1 < l.length) : wk l (k + 2) = (wk l (k + 1) && inB l[k + 1] && decide (l[k] < l[k + 1])) := by
  unfold wk
  rw [List.take_add_one (i := k + 1), List.getElem?_eq_getElem h]
  simp only [Option.toList, List.all_append, List.all_cons, List.all_nil, Bool.and_true, rises_snoc]
  have h1 : (l.take (k + 1)).isEmpty = false := by cases l <;> simp at h ⊢
  have h2 : (l.take (k + 1)).getLastD 0 = l[k] := by
    rw [List.getLastD_eq_getLast?, List.getLast?_take]
    simp [show k < l.length by omega]
  rw [h1, h2]
  simp only [Bool.false_or]
  generalize decide (1 ≤ l.length) = a
  generalize decide (l.length ≤ 40) = b
  generalize (l.take (k + 1)).all inB = c
  generalize inB l[k + 1] = d
  generalize rises (l.take (k + 1)) = e
  generalize decide (l[k] < l[k + 1]) = f
  revert a b c d e f
  decide
/-- One less is right still, if one is left. -/
theorem okL_less {l : List Int} (h : okL l = true) {k : Nat} (hk : k < l.length) : okL (l.take k ++ l.drop (k + 1)) = decide (1 < l.length) := by
  unfold okL at h ⊢
  simp only [Bool.and_eq_true, decide_eq_true_eq] at h
  obtain ⟨⟨⟨h1, h2⟩, h3⟩, h4⟩ := h
  have hlen : (l.take k ++ l.drop (k + 1)).length = l.length - 1 := by simp; omega
  have hin : (l.take k ++ l.drop (k + 1)).all inB = true := by
    rw [List.all_append, Bool.and_eq_true]
    exact ⟨List.all_eq_true.2 fun x hx => List.all_eq_true.1 h3 x (List.mem_of_mem_take hx), List.all_eq_true.2 fun x hx => List.all_eq_true.1 h3 x (List.mem_of_mem_drop hx)⟩
  have hri : rises (l.take k ++ l.drop (k + 1)) = true := by
    have hp : l.Pairwise (· < ·) := by
      refine List.pairwise_iff_getElem.2 fun i j hi hj hij => ?_
      have hs := rises_iff.1 h4
      have key : ∀ d i, (hi : i + d + 1 < l.length) → l[i] < l[i + d + 1] := by
        intro d
        induction d with
        | zero => intro i hi; have := hs i hi; simpa [hi, show i < l.length by omega] using this
        | succ d ih =>
          intro i hi
          have a := ih i (by omega)
          have b := hs (i + d + 1) hi
          simp only [List.getD_eq_getElem?_getD, List.getElem?_eq_getElem (show i + d + 1 < l.length by omega), List.getElem?_eq_getElem (show i + d + 1 + 1 < l.length by omega), Option.getD_some] at b
          exact Int.lt_trans a b
      have := key (j - i - 1) i (by omega)
      simpa [show i + (j - i - 1) + 1 = j by omega] using this
    have hq : (l.take k ++ l.drop (k + 1)).Pairwise (· < ·) := by
      refine List.Pairwise.sublist ?_ hp
      have : l.take k ++ l.drop (k + 1) = l.eraseIdx k := (List.eraseIdx_eq_take_drop_succ l k).symm
      rw [this]; exact List.eraseIdx_sublist l k
    refine rises_iff.2 fun i hi => ?_
    have := List.pairwise_iff_getElem.1 hq i (i + 1) (by omega) hi (by omega)
    simp only [List.getD_eq_getElem?_getD, List.getElem?_eq_getElem (show i < (l.take k ++ l.drop (k + 1)).length by omega), List.getElem?_eq_getElem hi, Option.getD_some]
    exact this
  rw [hlen, hin, hri]
  simp only [Bool.and_true]
  rw [show decide (l.length - 1 ≤ 40) = true from decide_eq_true (by omega), Bool.and_true]
  congr 1
  simp; omega
theorem wk_step {l : List Int} {k : Nat} (h : k < l.length) : wk l (k + 1) = (wk l k && (decide (0 ≤ l[k]) && (decide (l[k] ≤ 1073741824) && (k == 0 || decide (l[k - 1]! < l[k]))))) := by
  cases k with
  | zero => rw [wk_succ0 h]; simp [inB]
  | succ k =>
    rw [wk_succ h]
    have : l[k + 1 - 1]! = l[k] := by simp [show k < l.length by omega]
    rw [this]
    simp [inB, Bool.and_assoc]
section
variable {E : Env} {N z : Nat} {Q : Post} {fr : Fr} {σ : Store}
/-- A step whose ends all look alike, trimmed. -/
theorem T_seqkk {x y : Code} (ts : List Nat) (fr' : Fr) (σ' : Store) (h1 : ∀ K : Fr → Store → Prop, (∀ fr σ, Fr.keep ts fr = fr' → σ = σ' → K fr σ) → T E N z x (Post.seq K Q) fr σ) (h2 : T E N z y Q fr' σ') : T E N z (.seq x y) Q fr σ :=
  T_seqk fun K hK => h1 K fun fr σ e1 e2 => hK _ _ (T_keep ts (by rw [e1, e2]; exact h2))
end
section
variable {E : Env} {N z : Nat} {Q : Post} {fr : Fr} {σ : Store}
theorem T_fall {c : Code} {fr' : Fr} {σ' : Store} (n : Nat) (ts : List Nat) (hz : z ≤ n) (hfr : Fr.keep ts fr = fr') (hb : belowFr n fr' = true) (hσ : σ.take n = σ') (hall : belowStore n σ' = true) (h : T E N z c Q fr' σ') : T E N z c Q fr σ := fun cx a ht hn hf => by
  subst hfr hσ
  have hn' := hn.upto n (Nat.le_trans ht hz) hall
  have hf0 := hf.keep ts
  have hf' : FR E (cx.upto n) N (Fr.keep ts fr) a.tmps := ⟨hf0.1, fun t x hx => by
    obtain ⟨h1, h2⟩ := hf0.2 t x hx
    refine ⟨h1, VL.lower h2 (n := n) ?_ (fun _ h => h) (fun _ _ => rfl) (fun b h h' => ⟨h', h⟩) (fun b m h => (Cx.upto_mu h).2)⟩
    have := List.all_eq_true.1 hb (t, x) (Fr.get_mem hx)
    simpa [belowL] using this⟩
  have hs : Step (cx.below z) (cx.upto n) := ⟨⟨fun _ h => h, fun _ _ => rfl, fun b hb => ⟨Nat.lt_of_lt_of_le hb.2 hz, hb.1⟩, fun b _ m h => ⟨m, (Cx.upto_mu h).2, Nat.le_refl _, fun _ => rfl⟩⟩, fun _ h => h, fun _ _ => rfl, fun _ h => .inl h,
    fun b m h => .inr ⟨b, m, (Cx.upto_mu h).2, rfl⟩, rfl, fun b hb => by
      rcases Nat.lt_or_ge b z with h | h
      · exact .inl ⟨hb.2, h⟩
      · exact .inr (Nat.le_trans ht h), Nat.le_refl _, rfl, rfl, rfl⟩
  exact wr_mono (h (cx.upto n) a ht hn' hf') fun e a w => Lift.step hs
/-- The same, what was allocated inside forgotten. -/
theorem T_seqkf {x y : Code} (n : Nat) (ts : List Nat) (fr' : Fr) (σ' : Store) (hz : z ≤ n) (hb : belowFr n fr' = true) (hall : belowStore n σ' = true) (h1 : ∀ K : Fr → Store → Prop, (∀ fr σ, Fr.keep ts fr = fr' → σ.take n = σ' → K fr σ) → T E N z x (Post.seq K Q) fr σ) (h2 : T E N z y Q fr' σ') : T E N z (.seq x y) Q fr σ :=
  T_seqk fun K hK => h1 K fun fr σ e1 e2 => hK _ _ (T_fall n ts hz e1 hb e2 hall h2)
end
section
variable {R : Re → Store → Prop} {l : List Int} {at0 : UInt8}
set_option maxHeartbeats 4000000 in
theorem C_mright (h : ∀ σ, R (.ret (.bool true)) σ) : C tE 5 [.lit (is l), .int .u8 at0.toNat] [] R := by
  have hll := is_len l
  cases h9 : decide (900 < (l.length : Int)) with
  | true =>
    refine C_bodyk tOK Try.func5 rfl (Nat.le_of_ble_eq_true rfl) fun K hK => ?_; simp
    repeat (first | (refine T_seqk fun K hK => ?_) | (refine T_reg tOK rfl ?_; simp [hll,h9]) | (refine T_ret ?_; try simp) | (refine T_skip ?_; try simp) | (refine T_blockk fun K hK => ?_) | (with_reducible apply_assumption -exfalso -symm) | (rw [afterRF_ret]; simp [hll,h9]) | (refine T_exit ?_; try simp) | (refine T_cond_t ?_ ?_; · (simp; done)) | (refine T_cond_f ?_ ?_; · (simp; done)) | (rintro _ _ (_ | _) hz9 <;> first | (simp; done) | (simp at hz9; done)) | (refine And.intro ?_ ?_) | (simp only [Post.block_ret, Post.block_exit, Post.block_normal, Post.block_pan, Post.seq_ret, Post.seq_exit, Post.seq_normal, Post.seq_pan]; try simp [hll,h9]) | (refine T_loop (TL_round ?_)) | (refine TL_round ?_) | (refine T_draw tOK tmix [([], 0), ([0], 1), ([0, 1], 2), ([0, 1], 3), ([0, 1, 2, 3], 4), ([0, 1, 2, 3, 4], 5), ([0, 1, 2, 3, 4, 5], 6), ([0, 1, 2, 3, 4, 5, 6], 7), ([0, 1, 2, 3, 4, 5, 6, 7], 8), ([0, 1, 2, 3, 4, 5, 6, 7, 8], 9), ([0, 1, 2, 3, 4, 5, 6, 7, 8], 10), ([0, 1, 2, 3, 4, 5, 6, 7, 8, 9, 10], 11), ([0, 1, 2, 3, 4, 5, 6, 7, 8, 9, 10, 11], 12), ([0, 1, 2, 3, 4, 5, 6, 7, 8, 9, 10, 11, 12], 13), ([0, 1, 2, 3, 4, 5, 6, 7, 8, 9, 10, 11, 12, 13], 14), ([0, 1, 2, 3, 4, 5, 6, 7, 8, 9, 10, 11, 12, 13, 14], 15), ([0, 1, 2, 3, 4, 5, 6, 7, 8, 9, 10, 11, 12, 13, 14, 15], 16), ([0, 1, 2, 3, 4, 5, 6, 7, 8, 9, 10, 11, 12, 13, 14, 15, 16], 17), ([0, 1, 2, 3, 4, 5, 6, 7, 8, 9, 10, 11, 12, 13, 14, 15, 16, 17], 18), ([0, 1, 2, 3, 4, 5, 6, 7, 8, 9, 10, 11, 12, 13, 14, 15, 16, 17, 18], 19), ([0, 1, 2, 3, 4, 5, 6, 7, 8, 9, 10, 11, 12, 13, 14, 15, 16, 17, 18], 20), ([0, 1, 2, 3, 4, 5, 6, 7, 8, 9, 10, 11, 12, 13, 14, 15, 16, 17, 18, 19, 20], 21), ([0, 1, 2, 3, 4, 5, 6, 7, 8, 9, 10, 11, 12, 13, 14, 15, 16, 17, 18, 19, 20, 21], 22), ([0, 1, 2, 3, 4, 5, 6, 7, 8, 9, 10, 11, 12, 13, 14, 15, 16, 17, 18], 23), ([0, 1, 2, 3, 4, 5, 6, 7, 8, 9, 10, 11, 12, 13, 14, 15, 16, 17, 18], 24), ([0, 1, 2, 3, 4, 5, 6, 7, 8, 9, 10, 11, 12, 13, 14, 15, 16, 17, 18, 24], 25), ([0, 1, 2, 3, 4, 5, 6, 7, 8, 9, 10, 11, 12, 13, 14, 15, 16, 17, 18, 23, 24, 25], 26), ([0, 1, 2, 3, 4, 5, 6, 7, 8, 9, 10, 11, 12, 13, 14, 15, 16, 17, 18, 23, 24, 25, 26], 27), ([0, 1, 2, 3, 4, 5, 6, 7, 8, 9, 10, 11, 12, 13, 14, 15, 16, 17, 18, 19, 20, 21, 22, 23, 24, 25, 26, 27], 28), ([0, 1, 2, 3, 4, 5, 6, 7, 8, 9, 10, 11, 12, 13, 14, 15, 16, 17, 18, 19, 20, 21, 22, 23, 24, 25, 26, 27, 28], 29), ([0, 1, 2, 3, 4, 5, 6, 7, 8, 9, 10, 11, 12, 13, 14, 15, 16, 17, 18, 19, 20, 21, 22, 23, 24, 25, 26, 27, 28, 29], 30), ([0, 1, 2, 3, 4, 5, 6, 7, 8, 9, 10, 11, 12, 13, 14, 15, 16, 17, 18, 19, 20, 21, 22, 23, 24, 25, 26, 27, 28, 29, 30], 31)] 28 (by decide +kernel) ?_; simp [hll,h9]) | (refine T_draw tOK tmix [([], 3), ([0], 4), ([0, 1], 0), ([0, 1], 5), ([0, 1], 6), ([0, 1, 3, 4], 7), ([0, 1, 2, 3, 4, 5], 1), ([0, 1], 8), ([0, 1], 9), ([0, 1, 8], 10), ([0, 1, 7, 8, 9], 11), ([0, 1, 2, 3, 4, 5, 6, 7, 8, 9, 10], 2), ([0, 1, 2, 3, 4, 5, 6, 7, 8, 9, 10, 11], 12), ([0, 1], 13), ([0, 1, 13], 14), ([0, 1, 13, 14], 15), ([0, 1, 2, 3, 4, 5, 6, 7, 8, 9, 10, 11, 12, 13, 14, 15], 16), ([0, 1, 2, 3, 4, 5, 6, 7, 8, 9, 10, 11, 12, 13, 14, 15, 16], 17), ([0, 1, 2, 3, 4, 5, 6, 7, 8, 9, 10, 11, 12, 13, 14, 15, 16, 17], 18)] 16 (by decide +kernel) ?_; simp [hll,h9]))
    refine C_mhead ?_
    repeat (first | (refine T_seqk fun K hK => ?_) | (refine T_reg tOK rfl ?_; simp [hll,h9]) | (refine T_ret ?_; try simp) | (refine T_skip ?_; try simp) | (refine T_blockk fun K hK => ?_) | (with_reducible apply_assumption -exfalso -symm) | (rw [afterRF_ret]; simp [hll,h9]) | (refine T_exit ?_; try simp) | (refine T_cond_t ?_ ?_; · (simp; done)) | (refine T_cond_f ?_ ?_; · (simp; done)) | (rintro _ _ (_ | _) hz9 <;> first | (simp; done) | (simp at hz9; done)) | (refine And.intro ?_ ?_) | (simp only [Post.block_ret, Post.block_exit, Post.block_normal, Post.block_pan, Post.seq_ret, Post.seq_exit, Post.seq_normal, Post.seq_pan]; try simp [hll,h9]) | (refine T_draw tOK tmix [([], 0), ([0], 1), ([0, 1], 2), ([0, 1], 3), ([0, 1, 2, 3], 4), ([0, 1, 2, 3, 4], 5), ([0, 1, 2, 3, 4, 5], 6), ([0, 1, 2, 3, 4, 5, 6], 7), ([0, 1, 2, 3, 4, 5, 6, 7], 8), ([0, 1, 2, 3, 4, 5, 6, 7, 8], 9), ([0, 1, 2, 3, 4, 5, 6, 7, 8], 10), ([0, 1, 2, 3, 4, 5, 6, 7, 8, 9, 10], 11), ([0, 1, 2, 3, 4, 5, 6, 7, 8, 9, 10, 11], 12), ([0, 1, 2, 3, 4, 5, 6, 7, 8, 9, 10, 11, 12], 13), ([0, 1, 2, 3, 4, 5, 6, 7, 8, 9, 10, 11, 12, 13], 14), ([0, 1, 2, 3, 4, 5, 6, 7, 8, 9, 10, 11, 12, 13, 14], 15), ([0, 1, 2, 3, 4, 5, 6, 7, 8, 9, 10, 11, 12, 13, 14, 15], 16), ([0, 1, 2, 3, 4, 5, 6, 7, 8, 9, 10, 11, 12, 13, 14, 15, 16], 17), ([0, 1, 2, 3, 4, 5, 6, 7, 8, 9, 10, 11, 12, 13, 14, 15, 16, 17], 18), ([0, 1, 2, 3, 4, 5, 6, 7, 8, 9, 10, 11, 12, 13, 14, 15, 16, 17, 18], 19), ([0, 1, 2, 3, 4, 5, 6, 7, 8, 9, 10, 11, 12, 13, 14, 15, 16, 17, 18], 20), ([0, 1, 2, 3, 4, 5, 6, 7, 8, 9, 10, 11, 12, 13, 14, 15, 16, 17, 18, 19, 20], 21), ([0, 1, 2, 3, 4, 5, 6, 7, 8, 9, 10, 11, 12, 13, 14, 15, 16, 17, 18, 19, 20, 21], 22), ([0, 1, 2, 3, 4, 5, 6, 7, 8, 9, 10, 11, 12, 13, 14, 15, 16, 17, 18], 23), ([0, 1, 2, 3, 4, 5, 6, 7, 8, 9, 10, 11, 12, 13, 14, 15, 16, 17, 18], 24), ([0, 1, 2, 3, 4, 5, 6, 7, 8, 9, 10, 11, 12, 13, 14, 15, 16, 17, 18, 24], 25), ([0, 1, 2, 3, 4, 5, 6, 7, 8, 9, 10, 11, 12, 13, 14, 15, 16, 17, 18, 23, 24, 25], 26), ([0, 1, 2, 3, 4, 5, 6, 7, 8, 9, 10, 11, 12, 13, 14, 15, 16, 17, 18, 23, 24, 25, 26], 27), ([0, 1, 2, 3, 4, 5, 6, 7, 8, 9, 10, 11, 12, 13, 14, 15, 16, 17, 18, 19, 20, 21, 22, 23, 24, 25, 26, 27], 28), ([0, 1, 2, 3, 4, 5, 6, 7, 8, 9, 10, 11, 12, 13, 14, 15, 16, 17, 18, 19, 20, 21, 22, 23, 24, 25, 26, 27, 28], 29), ([0, 1, 2, 3, 4, 5, 6, 7, 8, 9, 10, 11, 12, 13, 14, 15, 16, 17, 18, 19, 20, 21, 22, 23, 24, 25, 26, 27, 28, 29], 30), ([0, 1, 2, 3, 4, 5, 6, 7, 8, 9, 10, 11, 12, 13, 14, 15, 16, 17, 18, 19, 20, 21, 22, 23, 24, 25, 26, 27, 28, 29, 30], 31)] 28 (by decide +kernel) ?_; simp [hll,h9]) | (refine T_draw tOK tmix [([], 3), ([0], 4), ([0, 1], 0), ([0, 1], 5), ([0, 1], 6), ([0, 1, 3, 4], 7), ([0, 1, 2, 3, 4, 5], 1), ([0, 1], 8), ([0, 1], 9), ([0, 1, 8], 10), ([0, 1, 7, 8, 9], 11), ([0, 1, 2, 3, 4, 5, 6, 7, 8, 9, 10], 2), ([0, 1, 2, 3, 4, 5, 6, 7, 8, 9, 10, 11], 12), ([0, 1], 13), ([0, 1, 13], 14), ([0, 1, 13, 14], 15), ([0, 1, 2, 3, 4, 5, 6, 7, 8, 9, 10, 11, 12, 13, 14, 15], 16), ([0, 1, 2, 3, 4, 5, 6, 7, 8, 9, 10, 11, 12, 13, 14, 15, 16], 17), ([0, 1, 2, 3, 4, 5, 6, 7, 8, 9, 10, 11, 12, 13, 14, 15, 16, 17], 18)] 16 (by decide +kernel) ?_; simp [hll,h9]))
  | false =>
    have hl9 : l.length ≤ 900 := by simp at h9; omega
    have h1d : decide (1 ≤ (l.length : Int)) = decide (1 ≤ l.length) := by congr 1; simp; omega
    have h40 : decide ((l.length : Int) ≤ 40) = decide (l.length ≤ 40) := by congr 1; simp; omega
    refine C_bodyk tOK Try.func5 rfl (Nat.le_of_ble_eq_true rfl) fun K hK => ?_; simp
    repeat (first | (refine T_seqk fun K hK => ?_) | (refine T_reg tOK rfl ?_; simp [hll,h9]) | (refine T_ret ?_; try simp) | (refine T_skip ?_; try simp) | (refine T_blockk fun K hK => ?_) | (with_reducible apply_assumption -exfalso -symm) | (rw [afterRF_ret]; simp [hll,h9]) | (refine T_exit ?_; try simp) | (refine T_cond_t ?_ ?_; · (simp; done)) | (refine T_cond_f ?_ ?_; · (simp; done)) | (rintro _ _ (_ | _) hz9 <;> first | (simp; done) | (simp at hz9; done)) | (refine And.intro ?_ ?_) | (simp only [Post.block_ret, Post.block_exit, Post.block_normal, Post.block_pan, Post.seq_ret, Post.seq_exit, Post.seq_normal, Post.seq_pan]; try simp [hll,h9]) | (refine T_loop (TL_round ?_)) | (refine TL_round ?_) | (refine T_draw tOK tmix [([], 0), ([0], 1), ([0, 1], 2), ([0, 1], 3), ([0, 1, 2, 3], 4), ([0, 1, 2, 3, 4], 5), ([0, 1, 2, 3, 4, 5], 6), ([0, 1, 2, 3, 4, 5, 6], 7), ([0, 1, 2, 3, 4, 5, 6, 7], 8), ([0, 1, 2, 3, 4, 5, 6, 7, 8], 9), ([0, 1, 2, 3, 4, 5, 6, 7, 8], 10), ([0, 1, 2, 3, 4, 5, 6, 7, 8, 9, 10], 11), ([0, 1, 2, 3, 4, 5, 6, 7, 8, 9, 10, 11], 12), ([0, 1, 2, 3, 4, 5, 6, 7, 8, 9, 10, 11, 12], 13), ([0, 1, 2, 3, 4, 5, 6, 7, 8, 9, 10, 11, 12, 13], 14), ([0, 1, 2, 3, 4, 5, 6, 7, 8, 9, 10, 11, 12, 13, 14], 15), ([0, 1, 2, 3, 4, 5, 6, 7, 8, 9, 10, 11, 12, 13, 14, 15], 16), ([0, 1, 2, 3, 4, 5, 6, 7, 8, 9, 10, 11, 12, 13, 14, 15, 16], 17), ([0, 1, 2, 3, 4, 5, 6, 7, 8, 9, 10, 11, 12, 13, 14, 15, 16, 17], 18), ([0, 1, 2, 3, 4, 5, 6, 7, 8, 9, 10, 11, 12, 13, 14, 15, 16, 17, 18], 19), ([0, 1, 2, 3, 4, 5, 6, 7, 8, 9, 10, 11, 12, 13, 14, 15, 16, 17, 18], 20), ([0, 1, 2, 3, 4, 5, 6, 7, 8, 9, 10, 11, 12, 13, 14, 15, 16, 17, 18, 19, 20], 21), ([0, 1, 2, 3, 4, 5, 6, 7, 8, 9, 10, 11, 12, 13, 14, 15, 16, 17, 18, 19, 20, 21], 22), ([0, 1, 2, 3, 4, 5, 6, 7, 8, 9, 10, 11, 12, 13, 14, 15, 16, 17, 18], 23), ([0, 1, 2, 3, 4, 5, 6, 7, 8, 9, 10, 11, 12, 13, 14, 15, 16, 17, 18], 24), ([0, 1, 2, 3, 4, 5, 6, 7, 8, 9, 10, 11, 12, 13, 14, 15, 16, 17, 18, 24], 25), ([0, 1, 2, 3, 4, 5, 6, 7, 8, 9, 10, 11, 12, 13, 14, 15, 16, 17, 18, 23, 24, 25], 26), ([0, 1, 2, 3, 4, 5, 6, 7, 8, 9, 10, 11, 12, 13, 14, 15, 16, 17, 18, 23, 24, 25, 26], 27), ([0, 1, 2, 3, 4, 5, 6, 7, 8, 9, 10, 11, 12, 13, 14, 15, 16, 17, 18, 19, 20, 21, 22, 23, 24, 25, 26, 27], 28), ([0, 1, 2, 3, 4, 5, 6, 7, 8, 9, 10, 11, 12, 13, 14, 15, 16, 17, 18, 19, 20, 21, 22, 23, 24, 25, 26, 27, 28], 29), ([0, 1, 2, 3, 4, 5, 6, 7, 8, 9, 10, 11, 12, 13, 14, 15, 16, 17, 18, 19, 20, 21, 22, 23, 24, 25, 26, 27, 28, 29], 30), ([0, 1, 2, 3, 4, 5, 6, 7, 8, 9, 10, 11, 12, 13, 14, 15, 16, 17, 18, 19, 20, 21, 22, 23, 24, 25, 26, 27, 28, 29, 30], 31)] 28 (by decide +kernel) ?_; simp [hll,h9]) | (refine T_draw tOK tmix [([], 3), ([0], 4), ([0, 1], 0), ([0, 1], 5), ([0, 1], 6), ([0, 1, 3, 4], 7), ([0, 1, 2, 3, 4, 5], 1), ([0, 1], 8), ([0, 1], 9), ([0, 1, 8], 10), ([0, 1, 7, 8, 9], 11), ([0, 1, 2, 3, 4, 5, 6, 7, 8, 9, 10], 2), ([0, 1, 2, 3, 4, 5, 6, 7, 8, 9, 10, 11], 12), ([0, 1], 13), ([0, 1, 13], 14), ([0, 1, 13, 14], 15), ([0, 1, 2, 3, 4, 5, 6, 7, 8, 9, 10, 11, 12, 13, 14, 15], 16), ([0, 1, 2, 3, 4, 5, 6, 7, 8, 9, 10, 11, 12, 13, 14, 15, 16], 17), ([0, 1, 2, 3, 4, 5, 6, 7, 8, 9, 10, 11, 12, 13, 14, 15, 16, 17], 18)] 16 (by decide +kernel) ?_; simp [hll,h9]))
    refine C_mhead ?_
    repeat (first | (rw [afterRF_ret]; simp [hll,h9]) | with_reducible apply_assumption -exfalso -symm)
    refine T_seqkk [0, 1, 5] [(0, .lit (is l)), (1, .int .u8 at0.toNat), (5, .bool true)] [] (fun K hK => ?_) ?_
    · repeat (first | (refine T_seqk fun K hK => ?_) | (refine T_reg tOK rfl ?_; simp [hll,h9,Fr.keep]) | (refine T_ret ?_; try simp) | (refine T_skip ?_; try simp) | (refine T_blockk fun K hK => ?_) | (with_reducible apply_assumption -exfalso -symm) | (rw [afterRF_ret]; simp [hll,h9,Fr.keep]) | (refine T_exit ?_; try simp) | (refine T_cond_t ?_ ?_; · (simp; done)) | (refine T_cond_f ?_ ?_; · (simp; done)) | (rintro _ _ (_ | _) hz9 <;> first | (simp; done) | (simp at hz9; done)) | (refine And.intro ?_ ?_) | (simp only [Post.block_ret, Post.block_exit, Post.block_normal, Post.block_pan, Post.seq_ret, Post.seq_exit, Post.seq_normal, Post.seq_pan]; try simp [hll,h9,Fr.keep]) | (refine T_draw tOK tmix [([], 0), ([0], 1), ([0, 1], 2), ([0, 1], 3), ([0, 1, 2, 3], 4), ([0, 1, 2, 3, 4], 5), ([0, 1, 2, 3, 4, 5], 6), ([0, 1, 2, 3, 4, 5, 6], 7), ([0, 1, 2, 3, 4, 5, 6, 7], 8), ([0, 1, 2, 3, 4, 5, 6, 7, 8], 9), ([0, 1, 2, 3, 4, 5, 6, 7, 8], 10), ([0, 1, 2, 3, 4, 5, 6, 7, 8, 9, 10], 11), ([0, 1, 2, 3, 4, 5, 6, 7, 8, 9, 10, 11], 12), ([0, 1, 2, 3, 4, 5, 6, 7, 8, 9, 10, 11, 12], 13), ([0, 1, 2, 3, 4, 5, 6, 7, 8, 9, 10, 11, 12, 13], 14), ([0, 1, 2, 3, 4, 5, 6, 7, 8, 9, 10, 11, 12, 13, 14], 15), ([0, 1, 2, 3, 4, 5, 6, 7, 8, 9, 10, 11, 12, 13, 14, 15], 16), ([0, 1, 2, 3, 4, 5, 6, 7, 8, 9, 10, 11, 12, 13, 14, 15, 16], 17), ([0, 1, 2, 3, 4, 5, 6, 7, 8, 9, 10, 11, 12, 13, 14, 15, 16, 17], 18), ([0, 1, 2, 3, 4, 5, 6, 7, 8, 9, 10, 11, 12, 13, 14, 15, 16, 17, 18], 19), ([0, 1, 2, 3, 4, 5, 6, 7, 8, 9, 10, 11, 12, 13, 14, 15, 16, 17, 18], 20), ([0, 1, 2, 3, 4, 5, 6, 7, 8, 9, 10, 11, 12, 13, 14, 15, 16, 17, 18, 19, 20], 21), ([0, 1, 2, 3, 4, 5, 6, 7, 8, 9, 10, 11, 12, 13, 14, 15, 16, 17, 18, 19, 20, 21], 22), ([0, 1, 2, 3, 4, 5, 6, 7, 8, 9, 10, 11, 12, 13, 14, 15, 16, 17, 18], 23), ([0, 1, 2, 3, 4, 5, 6, 7, 8, 9, 10, 11, 12, 13, 14, 15, 16, 17, 18], 24), ([0, 1, 2, 3, 4, 5, 6, 7, 8, 9, 10, 11, 12, 13, 14, 15, 16, 17, 18, 24], 25), ([0, 1, 2, 3, 4, 5, 6, 7, 8, 9, 10, 11, 12, 13, 14, 15, 16, 17, 18, 23, 24, 25], 26), ([0, 1, 2, 3, 4, 5, 6, 7, 8, 9, 10, 11, 12, 13, 14, 15, 16, 17, 18, 23, 24, 25, 26], 27), ([0, 1, 2, 3, 4, 5, 6, 7, 8, 9, 10, 11, 12, 13, 14, 15, 16, 17, 18, 19, 20, 21, 22, 23, 24, 25, 26, 27], 28), ([0, 1, 2, 3, 4, 5, 6, 7, 8, 9, 10, 11, 12, 13, 14, 15, 16, 17, 18, 19, 20, 21, 22, 23, 24, 25, 26, 27, 28], 29), ([0, 1, 2, 3, 4, 5, 6, 7, 8, 9, 10, 11, 12, 13, 14, 15, 16, 17, 18, 19, 20, 21, 22, 23, 24, 25, 26, 27, 28, 29], 30), ([0, 1, 2, 3, 4, 5, 6, 7, 8, 9, 10, 11, 12, 13, 14, 15, 16, 17, 18, 19, 20, 21, 22, 23, 24, 25, 26, 27, 28, 29, 30], 31)] 28 (by decide +kernel) ?_; simp [hll,h9,Fr.keep]) | (refine T_draw tOK tmix [([], 3), ([0], 4), ([0, 1], 0), ([0, 1], 5), ([0, 1], 6), ([0, 1, 3, 4], 7), ([0, 1, 2, 3, 4, 5], 1), ([0, 1], 8), ([0, 1], 9), ([0, 1, 8], 10), ([0, 1, 7, 8, 9], 11), ([0, 1, 2, 3, 4, 5, 6, 7, 8, 9, 10], 2), ([0, 1, 2, 3, 4, 5, 6, 7, 8, 9, 10, 11], 12), ([0, 1], 13), ([0, 1, 13], 14), ([0, 1, 13, 14], 15), ([0, 1, 2, 3, 4, 5, 6, 7, 8, 9, 10, 11, 12, 13, 14, 15], 16), ([0, 1, 2, 3, 4, 5, 6, 7, 8, 9, 10, 11, 12, 13, 14, 15, 16], 17), ([0, 1, 2, 3, 4, 5, 6, 7, 8, 9, 10, 11, 12, 13, 14, 15, 16, 17], 18)] 16 (by decide +kernel) ?_; simp [hll,h9,Fr.keep]))
    refine T_seqkk [0, 1, 5, 6] [(0, .lit (is l)), (1, .int .u8 at0.toNat), (5, .bool true), (6, .bool (wk l 0))] [] (fun K hK => ?_) ?_
    · rw [wk_zero] at hK
      cases h1 : decide (1 ≤ l.length) with
      | false =>
        rw [h1] at h1d hK; rw [Bool.false_and] at hK
        repeat (first | (refine T_seqk fun K hK => ?_) | (refine T_reg tOK rfl ?_; simp [hll,h1d,Fr.keep]) | (refine T_ret ?_; try simp) | (refine T_skip ?_; try simp) | (refine T_blockk fun K hK => ?_) | (with_reducible apply_assumption -exfalso -symm) | (rw [afterRF_ret]; simp [hll,h1d,Fr.keep]) | (refine T_exit ?_; try simp) | (refine T_cond_t ?_ ?_; · (simp; done)) | (refine T_cond_f ?_ ?_; · (simp; done)) | (rintro _ _ (_ | _) hz9 <;> first | (simp; done) | (simp at hz9; done)) | (refine And.intro ?_ ?_) | (simp only [Post.block_ret, Post.block_exit, Post.block_normal, Post.block_pan, Post.seq_ret, Post.seq_exit, Post.seq_normal, Post.seq_pan]; try simp [hll,h1d,Fr.keep]) | (refine T_draw tOK tmix [([], 0), ([0], 1), ([0, 1], 2), ([0, 1], 3), ([0, 1, 2, 3], 4), ([0, 1, 2, 3, 4], 5), ([0, 1, 2, 3, 4, 5], 6), ([0, 1, 2, 3, 4, 5, 6], 7), ([0, 1, 2, 3, 4, 5, 6, 7], 8), ([0, 1, 2, 3, 4, 5, 6, 7, 8], 9), ([0, 1, 2, 3, 4, 5, 6, 7, 8], 10), ([0, 1, 2, 3, 4, 5, 6, 7, 8, 9, 10], 11), ([0, 1, 2, 3, 4, 5, 6, 7, 8, 9, 10, 11], 12), ([0, 1, 2, 3, 4, 5, 6, 7, 8, 9, 10, 11, 12], 13), ([0, 1, 2, 3, 4, 5, 6, 7, 8, 9, 10, 11, 12, 13], 14), ([0, 1, 2, 3, 4, 5, 6, 7, 8, 9, 10, 11, 12, 13, 14], 15), ([0, 1, 2, 3, 4, 5, 6, 7, 8, 9, 10, 11, 12, 13, 14, 15], 16), ([0, 1, 2, 3, 4, 5, 6, 7, 8, 9, 10, 11, 12, 13, 14, 15, 16], 17), ([0, 1, 2, 3, 4, 5, 6, 7, 8, 9, 10, 11, 12, 13, 14, 15, 16, 17], 18), ([0, 1, 2, 3, 4, 5, 6, 7, 8, 9, 10, 11, 12, 13, 14, 15, 16, 17, 18], 19), ([0, 1, 2, 3, 4, 5, 6, 7, 8, 9, 10, 11, 12, 13, 14, 15, 16, 17, 18], 20), ([0, 1, 2, 3, 4, 5, 6, 7, 8, 9, 10, 11, 12, 13, 14, 15, 16, 17, 18, 19, 20], 21), ([0, 1, 2, 3, 4, 5, 6, 7, 8, 9, 10, 11, 12, 13, 14, 15, 16, 17, 18, 19, 20, 21], 22), ([0, 1, 2, 3, 4, 5, 6, 7, 8, 9, 10, 11, 12, 13, 14, 15, 16, 17, 18], 23), ([0, 1, 2, 3, 4, 5, 6, 7, 8, 9, 10, 11, 12, 13, 14, 15, 16, 17, 18], 24), ([0, 1, 2, 3, 4, 5, 6, 7, 8, 9, 10, 11, 12, 13, 14, 15, 16, 17, 18, 24], 25), ([0, 1, 2, 3, 4, 5, 6, 7, 8, 9, 10, 11, 12, 13, 14, 15, 16, 17, 18, 23, 24, 25], 26), ([0, 1, 2, 3, 4, 5, 6, 7, 8, 9, 10, 11, 12, 13, 14, 15, 16, 17, 18, 23, 24, 25, 26], 27), ([0, 1, 2, 3, 4, 5, 6, 7, 8, 9, 10, 11, 12, 13, 14, 15, 16, 17, 18, 19, 20, 21, 22, 23, 24, 25, 26, 27], 28), ([0, 1, 2, 3, 4, 5, 6, 7, 8, 9, 10, 11, 12, 13, 14, 15, 16, 17, 18, 19, 20, 21, 22, 23, 24, 25, 26, 27, 28], 29), ([0, 1, 2, 3, 4, 5, 6, 7, 8, 9, 10, 11, 12, 13, 14, 15, 16, 17, 18, 19, 20, 21, 22, 23, 24, 25, 26, 27, 28, 29], 30), ([0, 1, 2, 3, 4, 5, 6, 7, 8, 9, 10, 11, 12, 13, 14, 15, 16, 17, 18, 19, 20, 21, 22, 23, 24, 25, 26, 27, 28, 29, 30], 31)] 28 (by decide +kernel) ?_; simp [hll,h1d,Fr.keep]) | (refine T_draw tOK tmix [([], 3), ([0], 4), ([0, 1], 0), ([0, 1], 5), ([0, 1], 6), ([0, 1, 3, 4], 7), ([0, 1, 2, 3, 4, 5], 1), ([0, 1], 8), ([0, 1], 9), ([0, 1, 8], 10), ([0, 1, 7, 8, 9], 11), ([0, 1, 2, 3, 4, 5, 6, 7, 8, 9, 10], 2), ([0, 1, 2, 3, 4, 5, 6, 7, 8, 9, 10, 11], 12), ([0, 1], 13), ([0, 1, 13], 14), ([0, 1, 13, 14], 15), ([0, 1, 2, 3, 4, 5, 6, 7, 8, 9, 10, 11, 12, 13, 14, 15], 16), ([0, 1, 2, 3, 4, 5, 6, 7, 8, 9, 10, 11, 12, 13, 14, 15, 16], 17), ([0, 1, 2, 3, 4, 5, 6, 7, 8, 9, 10, 11, 12, 13, 14, 15, 16, 17], 18)] 16 (by decide +kernel) ?_; simp [hll,h1d,Fr.keep]))
      | true =>
        rw [h1] at h1d hK; rw [Bool.true_and] at hK
        cases h2 : decide (l.length ≤ 40) with
        | false =>
          rw [h2] at h40 hK
          repeat (first | (refine T_seqk fun K hK => ?_) | (refine T_reg tOK rfl ?_; simp [hll,h1d,h40,Fr.keep]) | (refine T_ret ?_; try simp) | (refine T_skip ?_; try simp) | (refine T_blockk fun K hK => ?_) | (with_reducible apply_assumption -exfalso -symm) | (rw [afterRF_ret]; simp [hll,h1d,h40,Fr.keep]) | (refine T_exit ?_; try simp) | (refine T_cond_t ?_ ?_; · (simp; done)) | (refine T_cond_f ?_ ?_; · (simp; done)) | (rintro _ _ (_ | _) hz9 <;> first | (simp; done) | (simp at hz9; done)) | (refine And.intro ?_ ?_) | (simp only [Post.block_ret, Post.block_exit, Post.block_normal, Post.block_pan, Post.seq_ret, Post.seq_exit, Post.seq_normal, Post.seq_pan]; try simp [hll,h1d,h40,Fr.keep]) | (refine T_draw tOK tmix [([], 0), ([0], 1), ([0, 1], 2), ([0, 1], 3), ([0, 1, 2, 3], 4), ([0, 1, 2, 3, 4], 5), ([0, 1, 2, 3, 4, 5], 6), ([0, 1, 2, 3, 4, 5, 6], 7), ([0, 1, 2, 3, 4, 5, 6, 7], 8), ([0, 1, 2, 3, 4, 5, 6, 7, 8], 9), ([0, 1, 2, 3, 4, 5, 6, 7, 8], 10), ([0, 1, 2, 3, 4, 5, 6, 7, 8, 9, 10], 11), ([0, 1, 2, 3, 4, 5, 6, 7, 8, 9, 10, 11], 12), ([0, 1, 2, 3, 4, 5, 6, 7, 8, 9, 10, 11, 12], 13), ([0, 1, 2, 3, 4, 5, 6, 7, 8, 9, 10, 11, 12, 13], 14), ([0, 1, 2, 3, 4, 5, 6, 7, 8, 9, 10, 11, 12, 13, 14], 15), ([0, 1, 2, 3, 4, 5, 6, 7, 8, 9, 10, 11, 12, 13, 14, 15], 16), ([0, 1, 2, 3, 4, 5, 6, 7, 8, 9, 10, 11, 12, 13, 14, 15, 16], 17), ([0, 1, 2, 3, 4, 5, 6, 7, 8, 9, 10, 11, 12, 13, 14, 15, 16, 17], 18), ([0, 1, 2, 3, 4, 5, 6, 7, 8, 9, 10, 11, 12, 13, 14, 15, 16, 17, 18], 19), ([0, 1, 2, 3, 4, 5, 6, 7, 8, 9, 10, 11, 12, 13, 14, 15, 16, 17, 18], 20), ([0, 1, 2, 3, 4, 5, 6, 7, 8, 9, 10, 11, 12, 13, 14, 15, 16, 17, 18, 19, 20], 21), ([0, 1, 2, 3, 4, 5, 6, 7, 8, 9, 10, 11, 12, 13, 14, 15, 16, 17, 18, 19, 20, 21], 22), ([0, 1, 2, 3, 4, 5, 6, 7, 8, 9, 10, 11, 12, 13, 14, 15, 16, 17, 18], 23), ([0, 1, 2, 3, 4, 5, 6, 7, 8, 9, 10, 11, 12, 13, 14, 15, 16, 17, 18], 24), ([0, 1, 2, 3, 4, 5, 6, 7, 8, 9, 10, 11, 12, 13, 14, 15, 16, 17, 18, 24], 25), ([0, 1, 2, 3, 4, 5, 6, 7, 8, 9, 10, 11, 12, 13, 14, 15, 16, 17, 18, 23, 24, 25], 26), ([0, 1, 2, 3, 4, 5, 6, 7, 8, 9, 10, 11, 12, 13, 14, 15, 16, 17, 18, 23, 24, 25, 26], 27), ([0, 1, 2, 3, 4, 5, 6, 7, 8, 9, 10, 11, 12, 13, 14, 15, 16, 17, 18, 19, 20, 21, 22, 23, 24, 25, 26, 27], 28), ([0, 1, 2, 3, 4, 5, 6, 7, 8, 9, 10, 11, 12, 13, 14, 15, 16, 17, 18, 19, 20, 21, 22, 23, 24, 25, 26, 27, 28], 29), ([0, 1, 2, 3, 4, 5, 6, 7, 8, 9, 10, 11, 12, 13, 14, 15, 16, 17, 18, 19, 20, 21, 22, 23, 24, 25, 26, 27, 28, 29], 30), ([0, 1, 2, 3, 4, 5, 6, 7, 8, 9, 10, 11, 12, 13, 14, 15, 16, 17, 18, 19, 20, 21, 22, 23, 24, 25, 26, 27, 28, 29, 30], 31)] 28 (by decide +kernel) ?_; simp [hll,h1d,h40,Fr.keep]) | (refine T_draw tOK tmix [([], 3), ([0], 4), ([0, 1], 0), ([0, 1], 5), ([0, 1], 6), ([0, 1, 3, 4], 7), ([0, 1, 2, 3, 4, 5], 1), ([0, 1], 8), ([0, 1], 9), ([0, 1, 8], 10), ([0, 1, 7, 8, 9], 11), ([0, 1, 2, 3, 4, 5, 6, 7, 8, 9, 10], 2), ([0, 1, 2, 3, 4, 5, 6, 7, 8, 9, 10, 11], 12), ([0, 1], 13), ([0, 1, 13], 14), ([0, 1, 13, 14], 15), ([0, 1, 2, 3, 4, 5, 6, 7, 8, 9, 10, 11, 12, 13, 14, 15], 16), ([0, 1, 2, 3, 4, 5, 6, 7, 8, 9, 10, 11, 12, 13, 14, 15, 16], 17), ([0, 1, 2, 3, 4, 5, 6, 7, 8, 9, 10, 11, 12, 13, 14, 15, 16, 17], 18)] 16 (by decide +kernel) ?_; simp [hll,h1d,h40,Fr.keep]))
        | true =>
          rw [h2] at h40 hK
          repeat (first | (refine T_seqk fun K hK => ?_) | (refine T_reg tOK rfl ?_; simp [hll,h1d,h40,Fr.keep]) | (refine T_ret ?_; try simp) | (refine T_skip ?_; try simp) | (refine T_blockk fun K hK => ?_) | (with_reducible apply_assumption -exfalso -symm) | (rw [afterRF_ret]; simp [hll,h1d,h40,Fr.keep]) | (refine T_exit ?_; try simp) | (refine T_cond_t ?_ ?_; · (simp; done)) | (refine T_cond_f ?_ ?_; · (simp; done)) | (rintro _ _ (_ | _) hz9 <;> first | (simp; done) | (simp at hz9; done)) | (refine And.intro ?_ ?_) | (simp only [Post.block_ret, Post.block_exit, Post.block_normal, Post.block_pan, Post.seq_ret, Post.seq_exit, Post.seq_normal, Post.seq_pan]; try simp [hll,h1d,h40,Fr.keep]) | (refine T_draw tOK tmix [([], 0), ([0], 1), ([0, 1], 2), ([0, 1], 3), ([0, 1, 2, 3], 4), ([0, 1, 2, 3, 4], 5), ([0, 1, 2, 3, 4, 5], 6), ([0, 1, 2, 3, 4, 5, 6], 7), ([0, 1, 2, 3, 4, 5, 6, 7], 8), ([0, 1, 2, 3, 4, 5, 6, 7, 8], 9), ([0, 1, 2, 3, 4, 5, 6, 7, 8], 10), ([0, 1, 2, 3, 4, 5, 6, 7, 8, 9, 10], 11), ([0, 1, 2, 3, 4, 5, 6, 7, 8, 9, 10, 11], 12), ([0, 1, 2, 3, 4, 5, 6, 7, 8, 9, 10, 11, 12], 13), ([0, 1, 2, 3, 4, 5, 6, 7, 8, 9, 10, 11, 12, 13], 14), ([0, 1, 2, 3, 4, 5, 6, 7, 8, 9, 10, 11, 12, 13, 14], 15), ([0, 1, 2, 3, 4, 5, 6, 7, 8, 9, 10, 11, 12, 13, 14, 15], 16), ([0, 1, 2, 3, 4, 5, 6, 7, 8, 9, 10, 11, 12, 13, 14, 15, 16], 17), ([0, 1, 2, 3, 4, 5, 6, 7, 8, 9, 10, 11, 12, 13, 14, 15, 16, 17], 18), ([0, 1, 2, 3, 4, 5, 6, 7, 8, 9, 10, 11, 12, 13, 14, 15, 16, 17, 18], 19), ([0, 1, 2, 3, 4, 5, 6, 7, 8, 9, 10, 11, 12, 13, 14, 15, 16, 17, 18], 20), ([0, 1, 2, 3, 4, 5, 6, 7, 8, 9, 10, 11, 12, 13, 14, 15, 16, 17, 18, 19, 20], 21), ([0, 1, 2, 3, 4, 5, 6, 7, 8, 9, 10, 11, 12, 13, 14, 15, 16, 17, 18, 19, 20, 21], 22), ([0, 1, 2, 3, 4, 5, 6, 7, 8, 9, 10, 11, 12, 13, 14, 15, 16, 17, 18], 23), ([0, 1, 2, 3, 4, 5, 6, 7, 8, 9, 10, 11, 12, 13, 14, 15, 16, 17, 18], 24), ([0, 1, 2, 3, 4, 5, 6, 7, 8, 9, 10, 11, 12, 13, 14, 15, 16, 17, 18, 24], 25), ([0, 1, 2, 3, 4, 5, 6, 7, 8, 9, 10, 11, 12, 13, 14, 15, 16, 17, 18, 23, 24, 25], 26), ([0, 1, 2, 3, 4, 5, 6, 7, 8, 9, 10, 11, 12, 13, 14, 15, 16, 17, 18, 23, 24, 25, 26], 27), ([0, 1, 2, 3, 4, 5, 6, 7, 8, 9, 10, 11, 12, 13, 14, 15, 16, 17, 18, 19, 20, 21, 22, 23, 24, 25, 26, 27], 28), ([0, 1, 2, 3, 4, 5, 6, 7, 8, 9, 10, 11, 12, 13, 14, 15, 16, 17, 18, 19, 20, 21, 22, 23, 24, 25, 26, 27, 28], 29), ([0, 1, 2, 3, 4, 5, 6, 7, 8, 9, 10, 11, 12, 13, 14, 15, 16, 17, 18, 19, 20, 21, 22, 23, 24, 25, 26, 27, 28, 29], 30), ([0, 1, 2, 3, 4, 5, 6, 7, 8, 9, 10, 11, 12, 13, 14, 15, 16, 17, 18, 19, 20, 21, 22, 23, 24, 25, 26, 27, 28, 29, 30], 31)] 28 (by decide +kernel) ?_; simp [hll,h1d,h40,Fr.keep]) | (refine T_draw tOK tmix [([], 3), ([0], 4), ([0, 1], 0), ([0, 1], 5), ([0, 1], 6), ([0, 1, 3, 4], 7), ([0, 1, 2, 3, 4, 5], 1), ([0, 1], 8), ([0, 1], 9), ([0, 1, 8], 10), ([0, 1, 7, 8, 9], 11), ([0, 1, 2, 3, 4, 5, 6, 7, 8, 9, 10], 2), ([0, 1, 2, 3, 4, 5, 6, 7, 8, 9, 10, 11], 12), ([0, 1], 13), ([0, 1, 13], 14), ([0, 1, 13, 14], 15), ([0, 1, 2, 3, 4, 5, 6, 7, 8, 9, 10, 11, 12, 13, 14, 15], 16), ([0, 1, 2, 3, 4, 5, 6, 7, 8, 9, 10, 11, 12, 13, 14, 15, 16], 17), ([0, 1, 2, 3, 4, 5, 6, 7, 8, 9, 10, 11, 12, 13, 14, 15, 16, 17], 18)] 16 (by decide +kernel) ?_; simp [hll,h1d,h40,Fr.keep]))
    refine T_seqkk [0, 1, 5, 6] [(0, .lit (is l)), (1, .int .u8 at0.toNat), (5, .bool true), (6, .bool (wk l l.length))] [] (fun K hK => ?_) ?_
    · repeat (first | (refine T_seqk fun K hK => ?_) | (refine T_reg tOK rfl ?_; simp) | (refine T_ret ?_; try simp) | (refine T_skip ?_; try simp) | (refine T_blockk fun K hK => ?_) | (with_reducible apply_assumption -exfalso -symm) | (rw [afterRF_ret]; simp) | (refine T_exit ?_; try simp) | (refine T_cond_t ?_ ?_; · (simp; done)) | (refine T_cond_f ?_ ?_; · (simp; done)) | (rintro _ _ (_ | _) hz9 <;> first | (simp; done) | (simp at hz9; done)) | (refine And.intro ?_ ?_) | (simp only [Post.block_ret, Post.block_exit, Post.block_normal, Post.block_pan, Post.seq_ret, Post.seq_exit, Post.seq_normal, Post.seq_pan]; try simp) | (refine T_draw tOK tmix [([], 0), ([0], 1), ([0, 1], 2), ([0, 1], 3), ([0, 1, 2, 3], 4), ([0, 1, 2, 3, 4], 5), ([0, 1, 2, 3, 4, 5], 6), ([0, 1, 2, 3, 4, 5, 6], 7), ([0, 1, 2, 3, 4, 5, 6, 7], 8), ([0, 1, 2, 3, 4, 5, 6, 7, 8], 9), ([0, 1, 2, 3, 4, 5, 6, 7, 8], 10), ([0, 1, 2, 3, 4, 5, 6, 7, 8, 9, 10], 11), ([0, 1, 2, 3, 4, 5, 6, 7, 8, 9, 10, 11], 12), ([0, 1, 2, 3, 4, 5, 6, 7, 8, 9, 10, 11, 12], 13), ([0, 1, 2, 3, 4, 5, 6, 7, 8, 9, 10, 11, 12, 13], 14), ([0, 1, 2, 3, 4, 5, 6, 7, 8, 9, 10, 11, 12, 13, 14], 15), ([0, 1, 2, 3, 4, 5, 6, 7, 8, 9, 10, 11, 12, 13, 14, 15], 16), ([0, 1, 2, 3, 4, 5, 6, 7, 8, 9, 10, 11, 12, 13, 14, 15, 16], 17), ([0, 1, 2, 3, 4, 5, 6, 7, 8, 9, 10, 11, 12, 13, 14, 15, 16, 17], 18), ([0, 1, 2, 3, 4, 5, 6, 7, 8, 9, 10, 11, 12, 13, 14, 15, 16, 17, 18], 19), ([0, 1, 2, 3, 4, 5, 6, 7, 8, 9, 10, 11, 12, 13, 14, 15, 16, 17, 18], 20), ([0, 1, 2, 3, 4, 5, 6, 7, 8, 9, 10, 11, 12, 13, 14, 15, 16, 17, 18, 19, 20], 21), ([0, 1, 2, 3, 4, 5, 6, 7, 8, 9, 10, 11, 12, 13, 14, 15, 16, 17, 18, 19, 20, 21], 22), ([0, 1, 2, 3, 4, 5, 6, 7, 8, 9, 10, 11, 12, 13, 14, 15, 16, 17, 18], 23), ([0, 1, 2, 3, 4, 5, 6, 7, 8, 9, 10, 11, 12, 13, 14, 15, 16, 17, 18], 24), ([0, 1, 2, 3, 4, 5, 6, 7, 8, 9, 10, 11, 12, 13, 14, 15, 16, 17, 18, 24], 25), ([0, 1, 2, 3, 4, 5, 6, 7, 8, 9, 10, 11, 12, 13, 14, 15, 16, 17, 18, 23, 24, 25], 26), ([0, 1, 2, 3, 4, 5, 6, 7, 8, 9, 10, 11, 12, 13, 14, 15, 16, 17, 18, 23, 24, 25, 26], 27), ([0, 1, 2, 3, 4, 5, 6, 7, 8, 9, 10, 11, 12, 13, 14, 15, 16, 17, 18, 19, 20, 21, 22, 23, 24, 25, 26, 27], 28), ([0, 1, 2, 3, 4, 5, 6, 7, 8, 9, 10, 11, 12, 13, 14, 15, 16, 17, 18, 19, 20, 21, 22, 23, 24, 25, 26, 27, 28], 29), ([0, 1, 2, 3, 4, 5, 6, 7, 8, 9, 10, 11, 12, 13, 14, 15, 16, 17, 18, 19, 20, 21, 22, 23, 24, 25, 26, 27, 28, 29], 30), ([0, 1, 2, 3, 4, 5, 6, 7, 8, 9, 10, 11, 12, 13, 14, 15, 16, 17, 18, 19, 20, 21, 22, 23, 24, 25, 26, 27, 28, 29, 30], 31)] 28 (by decide +kernel) ?_; simp) | (refine T_draw tOK tmix [([], 3), ([0], 4), ([0, 1], 0), ([0, 1], 5), ([0, 1], 6), ([0, 1, 3, 4], 7), ([0, 1, 2, 3, 4, 5], 1), ([0, 1], 8), ([0, 1], 9), ([0, 1, 8], 10), ([0, 1, 7, 8, 9], 11), ([0, 1, 2, 3, 4, 5, 6, 7, 8, 9, 10], 2), ([0, 1, 2, 3, 4, 5, 6, 7, 8, 9, 10, 11], 12), ([0, 1], 13), ([0, 1, 13], 14), ([0, 1, 13, 14], 15), ([0, 1, 2, 3, 4, 5, 6, 7, 8, 9, 10, 11, 12, 13, 14, 15], 16), ([0, 1, 2, 3, 4, 5, 6, 7, 8, 9, 10, 11, 12, 13, 14, 15, 16], 17), ([0, 1, 2, 3, 4, 5, 6, 7, 8, 9, 10, 11, 12, 13, 14, 15, 16, 17], 18)] 16 (by decide +kernel) ?_; simp))
      refine T_loop ?_
      refine TL_keep [0, 1, 5, 6, 7] ?_
      simp [Fr.keep]
      refine TL_ix (fun k => [(0, .lit (is l)), (1, .int .u8 at0.toNat), (5, .bool true), (6, .bool (wk l k)), (7, i64 k)]) (fun _ => []) l.length (fun _ => True) trivial ?_ ?_
      · intro _
        refine TL_round ?_
        repeat (first | (refine T_seqk fun K hK => ?_) | (refine T_reg tOK rfl ?_; simp [hll,Fr.keep]) | (refine T_ret ?_; try simp) | (refine T_skip ?_; try simp) | (refine T_blockk fun K hK => ?_) | (with_reducible apply_assumption -exfalso -symm) | (rw [afterRF_ret]; simp [hll,Fr.keep]) | (refine T_exit ?_; try simp) | (refine T_cond_t ?_ ?_; · (simp; done)) | (refine T_cond_f ?_ ?_; · (simp; done)) | (rintro _ _ (_ | _) hz9 <;> first | (simp; done) | (simp at hz9; done)) | (refine And.intro ?_ ?_) | (simp only [Post.block_ret, Post.block_exit, Post.block_normal, Post.block_pan, Post.seq_ret, Post.seq_exit, Post.seq_normal, Post.seq_pan]; try simp [hll,Fr.keep]) | (refine T_draw tOK tmix [([], 0), ([0], 1), ([0, 1], 2), ([0, 1], 3), ([0, 1, 2, 3], 4), ([0, 1, 2, 3, 4], 5), ([0, 1, 2, 3, 4, 5], 6), ([0, 1, 2, 3, 4, 5, 6], 7), ([0, 1, 2, 3, 4, 5, 6, 7], 8), ([0, 1, 2, 3, 4, 5, 6, 7, 8], 9), ([0, 1, 2, 3, 4, 5, 6, 7, 8], 10), ([0, 1, 2, 3, 4, 5, 6, 7, 8, 9, 10], 11), ([0, 1, 2, 3, 4, 5, 6, 7, 8, 9, 10, 11], 12), ([0, 1, 2, 3, 4, 5, 6, 7, 8, 9, 10, 11, 12], 13), ([0, 1, 2, 3, 4, 5, 6, 7, 8, 9, 10, 11, 12, 13], 14), ([0, 1, 2, 3, 4, 5, 6, 7, 8, 9, 10, 11, 12, 13, 14], 15), ([0, 1, 2, 3, 4, 5, 6, 7, 8, 9, 10, 11, 12, 13, 14, 15], 16), ([0, 1, 2, 3, 4, 5, 6, 7, 8, 9, 10, 11, 12, 13, 14, 15, 16], 17), ([0, 1, 2, 3, 4, 5, 6, 7, 8, 9, 10, 11, 12, 13, 14, 15, 16, 17], 18), ([0, 1, 2, 3, 4, 5, 6, 7, 8, 9, 10, 11, 12, 13, 14, 15, 16, 17, 18], 19), ([0, 1, 2, 3, 4, 5, 6, 7, 8, 9, 10, 11, 12, 13, 14, 15, 16, 17, 18], 20), ([0, 1, 2, 3, 4, 5, 6, 7, 8, 9, 10, 11, 12, 13, 14, 15, 16, 17, 18, 19, 20], 21), ([0, 1, 2, 3, 4, 5, 6, 7, 8, 9, 10, 11, 12, 13, 14, 15, 16, 17, 18, 19, 20, 21], 22), ([0, 1, 2, 3, 4, 5, 6, 7, 8, 9, 10, 11, 12, 13, 14, 15, 16, 17, 18], 23), ([0, 1, 2, 3, 4, 5, 6, 7, 8, 9, 10, 11, 12, 13, 14, 15, 16, 17, 18], 24), ([0, 1, 2, 3, 4, 5, 6, 7, 8, 9, 10, 11, 12, 13, 14, 15, 16, 17, 18, 24], 25), ([0, 1, 2, 3, 4, 5, 6, 7, 8, 9, 10, 11, 12, 13, 14, 15, 16, 17, 18, 23, 24, 25], 26), ([0, 1, 2, 3, 4, 5, 6, 7, 8, 9, 10, 11, 12, 13, 14, 15, 16, 17, 18, 23, 24, 25, 26], 27), ([0, 1, 2, 3, 4, 5, 6, 7, 8, 9, 10, 11, 12, 13, 14, 15, 16, 17, 18, 19, 20, 21, 22, 23, 24, 25, 26, 27], 28), ([0, 1, 2, 3, 4, 5, 6, 7, 8, 9, 10, 11, 12, 13, 14, 15, 16, 17, 18, 19, 20, 21, 22, 23, 24, 25, 26, 27, 28], 29), ([0, 1, 2, 3, 4, 5, 6, 7, 8, 9, 10, 11, 12, 13, 14, 15, 16, 17, 18, 19, 20, 21, 22, 23, 24, 25, 26, 27, 28, 29], 30), ([0, 1, 2, 3, 4, 5, 6, 7, 8, 9, 10, 11, 12, 13, 14, 15, 16, 17, 18, 19, 20, 21, 22, 23, 24, 25, 26, 27, 28, 29, 30], 31)] 28 (by decide +kernel) ?_; simp [hll,Fr.keep]) | (refine T_draw tOK tmix [([], 3), ([0], 4), ([0, 1], 0), ([0, 1], 5), ([0, 1], 6), ([0, 1, 3, 4], 7), ([0, 1, 2, 3, 4, 5], 1), ([0, 1], 8), ([0, 1], 9), ([0, 1, 8], 10), ([0, 1, 7, 8, 9], 11), ([0, 1, 2, 3, 4, 5, 6, 7, 8, 9, 10], 2), ([0, 1, 2, 3, 4, 5, 6, 7, 8, 9, 10, 11], 12), ([0, 1], 13), ([0, 1, 13], 14), ([0, 1, 13, 14], 15), ([0, 1, 2, 3, 4, 5, 6, 7, 8, 9, 10, 11, 12, 13, 14, 15], 16), ([0, 1, 2, 3, 4, 5, 6, 7, 8, 9, 10, 11, 12, 13, 14, 15, 16], 17), ([0, 1, 2, 3, 4, 5, 6, 7, 8, 9, 10, 11, 12, 13, 14, 15, 16, 17], 18)] 16 (by decide +kernel) ?_; simp [hll,Fr.keep]))
      · intro k hk _ ih
        replace ih := PLift.up (ih trivial)
        have hkb : decide (k < l.length) = true := by simpa using hk
        have hwk : IntKind.i64.wrap ((k : Int) + 1) = ((k + 1 : Nat) : Int) := by rw [IntWalk.i64_in _ (by omega)]; omega
        refine TL_round ?_
        refine T_seqkk [0, 1, 5, 6, 7] [(0, .lit (is l)), (1, .int .u8 at0.toNat), (5, .bool true), (6, .bool (wk l k)), (7, i64 k)] [] (fun K hK => ?_) ?_
        · repeat (first | (refine T_seqk fun K hK => ?_) | (refine T_reg tOK rfl ?_; simp [hll,hkb,Fr.keep]) | (refine T_ret ?_; try simp) | (refine T_skip ?_; try simp) | (refine T_blockk fun K hK => ?_) | (with_reducible apply_assumption -exfalso -symm) | (rw [afterRF_ret]; simp [hll,hkb,Fr.keep]) | (refine T_exit ?_; try simp) | (refine T_cond_t ?_ ?_; · (simp; done)) | (refine T_cond_f ?_ ?_; · (simp; done)) | (rintro _ _ (_ | _) hz9 <;> first | (simp; done) | (simp at hz9; done)) | (refine And.intro ?_ ?_) | (simp only [Post.block_ret, Post.block_exit, Post.block_normal, Post.block_pan, Post.seq_ret, Post.seq_exit, Post.seq_normal, Post.seq_pan]; try simp [hll,hkb,Fr.keep]) | (refine T_draw tOK tmix [([], 0), ([0], 1), ([0, 1], 2), ([0, 1], 3), ([0, 1, 2, 3], 4), ([0, 1, 2, 3, 4], 5), ([0, 1, 2, 3, 4, 5], 6), ([0, 1, 2, 3, 4, 5, 6], 7), ([0, 1, 2, 3, 4, 5, 6, 7], 8), ([0, 1, 2, 3, 4, 5, 6, 7, 8], 9), ([0, 1, 2, 3, 4, 5, 6, 7, 8], 10), ([0, 1, 2, 3, 4, 5, 6, 7, 8, 9, 10], 11), ([0, 1, 2, 3, 4, 5, 6, 7, 8, 9, 10, 11], 12), ([0, 1, 2, 3, 4, 5, 6, 7, 8, 9, 10, 11, 12], 13), ([0, 1, 2, 3, 4, 5, 6, 7, 8, 9, 10, 11, 12, 13], 14), ([0, 1, 2, 3, 4, 5, 6, 7, 8, 9, 10, 11, 12, 13, 14], 15), ([0, 1, 2, 3, 4, 5, 6, 7, 8, 9, 10, 11, 12, 13, 14, 15], 16), ([0, 1, 2, 3, 4, 5, 6, 7, 8, 9, 10, 11, 12, 13, 14, 15, 16], 17), ([0, 1, 2, 3, 4, 5, 6, 7, 8, 9, 10, 11, 12, 13, 14, 15, 16, 17], 18), ([0, 1, 2, 3, 4, 5, 6, 7, 8, 9, 10, 11, 12, 13, 14, 15, 16, 17, 18], 19), ([0, 1, 2, 3, 4, 5, 6, 7, 8, 9, 10, 11, 12, 13, 14, 15, 16, 17, 18], 20), ([0, 1, 2, 3, 4, 5, 6, 7, 8, 9, 10, 11, 12, 13, 14, 15, 16, 17, 18, 19, 20], 21), ([0, 1, 2, 3, 4, 5, 6, 7, 8, 9, 10, 11, 12, 13, 14, 15, 16, 17, 18, 19, 20, 21], 22), ([0, 1, 2, 3, 4, 5, 6, 7, 8, 9, 10, 11, 12, 13, 14, 15, 16, 17, 18], 23), ([0, 1, 2, 3, 4, 5, 6, 7, 8, 9, 10, 11, 12, 13, 14, 15, 16, 17, 18], 24), ([0, 1, 2, 3, 4, 5, 6, 7, 8, 9, 10, 11, 12, 13, 14, 15, 16, 17, 18, 24], 25), ([0, 1, 2, 3, 4, 5, 6, 7, 8, 9, 10, 11, 12, 13, 14, 15, 16, 17, 18, 23, 24, 25], 26), ([0, 1, 2, 3, 4, 5, 6, 7, 8, 9, 10, 11, 12, 13, 14, 15, 16, 17, 18, 23, 24, 25, 26], 27), ([0, 1, 2, 3, 4, 5, 6, 7, 8, 9, 10, 11, 12, 13, 14, 15, 16, 17, 18, 19, 20, 21, 22, 23, 24, 25, 26, 27], 28), ([0, 1, 2, 3, 4, 5, 6, 7, 8, 9, 10, 11, 12, 13, 14, 15, 16, 17, 18, 19, 20, 21, 22, 23, 24, 25, 26, 27, 28], 29), ([0, 1, 2, 3, 4, 5, 6, 7, 8, 9, 10, 11, 12, 13, 14, 15, 16, 17, 18, 19, 20, 21, 22, 23, 24, 25, 26, 27, 28, 29], 30), ([0, 1, 2, 3, 4, 5, 6, 7, 8, 9, 10, 11, 12, 13, 14, 15, 16, 17, 18, 19, 20, 21, 22, 23, 24, 25, 26, 27, 28, 29, 30], 31)] 28 (by decide +kernel) ?_; simp [hll,hkb,Fr.keep]) | (refine T_draw tOK tmix [([], 3), ([0], 4), ([0, 1], 0), ([0, 1], 5), ([0, 1], 6), ([0, 1, 3, 4], 7), ([0, 1, 2, 3, 4, 5], 1), ([0, 1], 8), ([0, 1], 9), ([0, 1, 8], 10), ([0, 1, 7, 8, 9], 11), ([0, 1, 2, 3, 4, 5, 6, 7, 8, 9, 10], 2), ([0, 1, 2, 3, 4, 5, 6, 7, 8, 9, 10, 11], 12), ([0, 1], 13), ([0, 1, 13], 14), ([0, 1, 13, 14], 15), ([0, 1, 2, 3, 4, 5, 6, 7, 8, 9, 10, 11, 12, 13, 14, 15], 16), ([0, 1, 2, 3, 4, 5, 6, 7, 8, 9, 10, 11, 12, 13, 14, 15, 16], 17), ([0, 1, 2, 3, 4, 5, 6, 7, 8, 9, 10, 11, 12, 13, 14, 15, 16, 17], 18)] 16 (by decide +kernel) ?_; simp [hll,hkb,Fr.keep]))
        refine T_seqkf 0 [0, 1, 5, 6, 7] [(0, .lit (is l)), (1, .int .u8 at0.toNat), (5, .bool true), (6, .bool (wk l (k + 1))), (7, i64 k)] [] (by simp) (by simp [belowFr, belowB, belowL_of_pure 0 _ (pureL_is l)]) rfl (fun K hK => ?_) ?_
        · refine T_blockk fun Q' hQ' => ?_
          rw [wk_step hk] at hK
          have ek := is_get hk
          have lk : k < (is l).length := by omega
          have ek' := get_of ek lk
          refine T_draw tOK tmix [([], 0), ([0], 1), ([0, 1], 2), ([0, 1], 3), ([0, 1, 2, 3], 4), ([0, 1, 2, 3, 4], 5), ([0, 1, 2, 3, 4, 5], 6), ([0, 1, 2, 3, 4, 5, 6], 7), ([0, 1, 2, 3, 4, 5, 6, 7], 8), ([0, 1, 2, 3, 4, 5, 6, 7, 8], 9), ([0, 1, 2, 3, 4, 5, 6, 7, 8], 10), ([0, 1, 2, 3, 4, 5, 6, 7, 8, 9, 10], 11), ([0, 1, 2, 3, 4, 5, 6, 7, 8, 9, 10, 11], 12), ([0, 1, 2, 3, 4, 5, 6, 7, 8, 9, 10, 11, 12], 13), ([0, 1, 2, 3, 4, 5, 6, 7, 8, 9, 10, 11, 12, 13], 14), ([0, 1, 2, 3, 4, 5, 6, 7, 8, 9, 10, 11, 12, 13, 14], 15), ([0, 1, 2, 3, 4, 5, 6, 7, 8, 9, 10, 11, 12, 13, 14, 15], 16), ([0, 1, 2, 3, 4, 5, 6, 7, 8, 9, 10, 11, 12, 13, 14, 15, 16], 17), ([0, 1, 2, 3, 4, 5, 6, 7, 8, 9, 10, 11, 12, 13, 14, 15, 16, 17], 18), ([0, 1, 2, 3, 4, 5, 6, 7, 8, 9, 10, 11, 12, 13, 14, 15, 16, 17, 18], 19), ([0, 1, 2, 3, 4, 5, 6, 7, 8, 9, 10, 11, 12, 13, 14, 15, 16, 17, 18], 20), ([0, 1, 2, 3, 4, 5, 6, 7, 8, 9, 10, 11, 12, 13, 14, 15, 16, 17, 18, 19, 20], 21), ([0, 1, 2, 3, 4, 5, 6, 7, 8, 9, 10, 11, 12, 13, 14, 15, 16, 17, 18, 19, 20, 21], 22), ([0, 1, 2, 3, 4, 5, 6, 7, 8, 9, 10, 11, 12, 13, 14, 15, 16, 17, 18], 23), ([0, 1, 2, 3, 4, 5, 6, 7, 8, 9, 10, 11, 12, 13, 14, 15, 16, 17, 18], 24), ([0, 1, 2, 3, 4, 5, 6, 7, 8, 9, 10, 11, 12, 13, 14, 15, 16, 17, 18, 24], 25), ([0, 1, 2, 3, 4, 5, 6, 7, 8, 9, 10, 11, 12, 13, 14, 15, 16, 17, 18, 23, 24, 25], 26), ([0, 1, 2, 3, 4, 5, 6, 7, 8, 9, 10, 11, 12, 13, 14, 15, 16, 17, 18, 23, 24, 25, 26], 27), ([0, 1, 2, 3, 4, 5, 6, 7, 8, 9, 10, 11, 12, 13, 14, 15, 16, 17, 18, 19, 20, 21, 22, 23, 24, 25, 26, 27], 28), ([0, 1, 2, 3, 4, 5, 6, 7, 8, 9, 10, 11, 12, 13, 14, 15, 16, 17, 18, 19, 20, 21, 22, 23, 24, 25, 26, 27, 28], 29), ([0, 1, 2, 3, 4, 5, 6, 7, 8, 9, 10, 11, 12, 13, 14, 15, 16, 17, 18, 19, 20, 21, 22, 23, 24, 25, 26, 27, 28, 29], 30), ([0, 1, 2, 3, 4, 5, 6, 7, 8, 9, 10, 11, 12, 13, 14, 15, 16, 17, 18, 19, 20, 21, 22, 23, 24, 25, 26, 27, 28, 29, 30], 31)] 28 (by decide +kernel) ?_
          cases hw : wk l k with
          | false =>
            rw [hw, Bool.false_and] at hK
            simp [hw]
            exact hQ' _ _ _ (hK _ _ (by simp [Fr.keep]) (by simp))
          | true =>
            rw [hw, Bool.true_and] at hK
            cases h1 : decide (0 ≤ l[k]) with
            | false =>
              rw [h1, Bool.false_and] at hK
              simp [hw,ek,ek',lk,h1]
              exact hQ' _ _ _ (hK _ _ (by simp [Fr.keep]) (by simp))
            | true =>
              rw [h1, Bool.true_and] at hK
              cases h2 : decide (l[k] ≤ 1073741824) with
              | false =>
                rw [h2, Bool.false_and] at hK
                simp [hw,ek,ek',lk,h1,h2]
                exact hQ' _ _ _ (hK _ _ (by simp [Fr.keep]) (by simp))
              | true =>
                rw [h2, Bool.true_and] at hK
                cases k with
                | zero =>
                  rw [show ((0 : Nat) == 0) = true from rfl, Bool.true_or] at hK
                  simp [hw,ek,ek',lk,h1,h2]
                  exact hQ' _ _ _ (hK _ _ (by simp [Fr.keep]) (by simp))
                | succ k =>
                  have hk' : k < l.length := by omega
                  rw [show (k + 1 == 0) = false from rfl, Bool.false_or, show l[k + 1 - 1]! = l[k] by simp [hk']] at hK
                  have fk := is_get hk'
                  have mk : k < (is l).length := by omega
                  have fk' := get_of fk mk
                  have hwk' : IntKind.i64.wrap (k : Int) = (k : Int) := IntWalk.i64_in _ (by omega)
                  have p1 : (0 : Int) ≤ (k : Int) + 1 := by omega
                  have p2 : ((k : Int) + 1).toNat = k + 1 := by omega
                  have p3 : ((k : Int) + 1 == 0) = false := by simp; omega
                  cases h3 : decide (l[k] < l[k + 1]) with
                  | false =>
                    rw [h3] at hK
                    try simp [-RF_cons, -RD_cons, hw,ek,ek',lk,h1,h2,hwk',p1,p2,p3,fk,fk',mk,h3]
                    repeat (rw [RD_cons]; simp [-RF_cons, -RD_cons, hw,ek,ek',lk,h1,h2,hwk',p1,p2,p3,fk,fk',mk,h3])
                    repeat (rw [RF_cons]; simp [-RF_cons, -RD_cons, hw,ek,ek',lk,h1,h2,hwk',p1,p2,p3,fk,fk',mk,h3])
                    refine hQ' _ _ _ ?_
                    exact hK _ _ (by simp [Fr.keep]) (by simp)
                  | true =>
                    rw [h3] at hK
                    try simp [-RF_cons, -RD_cons, hw,ek,ek',lk,h1,h2,hwk',p1,p2,p3,fk,fk',mk,h3]
                    repeat (rw [RD_cons]; simp [-RF_cons, -RD_cons, hw,ek,ek',lk,h1,h2,hwk',p1,p2,p3,fk,fk',mk,h3])
                    repeat (rw [RF_cons]; simp [-RF_cons, -RD_cons, hw,ek,ek',lk,h1,h2,hwk',p1,p2,p3,fk,fk',mk,h3])
                    refine hQ' _ _ _ ?_
                    exact hK _ _ (by simp [Fr.keep]) (by simp)
        · refine T_reg tOK rfl ?_
          simp [hwk]
          refine TL_keep [0, 1, 5, 6, 7] ?_
          simp [Fr.keep]
          exact ih.down
    rw [wk_full]
    have hlb : l.length < 1000000000 := by omega
    refine T_seqk fun K hK => ?_
    repeat (first | (refine T_seqk fun K hK => ?_) | (refine T_reg tOK rfl ?_; simp) | (refine T_ret ?_; try simp) | (refine T_skip ?_; try simp) | (refine T_blockk fun K hK => ?_) | (with_reducible apply_assumption -exfalso -symm) | (rw [afterRF_ret]; simp) | (refine T_exit ?_; try simp) | (refine T_cond_t ?_ ?_; · (simp; done)) | (refine T_cond_f ?_ ?_; · (simp; done)) | (rintro _ _ (_ | _) hz9 <;> first | (simp; done) | (simp at hz9; done)) | (refine And.intro ?_ ?_) | (simp only [Post.block_ret, Post.block_exit, Post.block_normal, Post.block_pan, Post.seq_ret, Post.seq_exit, Post.seq_normal, Post.seq_pan]; try simp) | (refine T_draw tOK tmix [([], 0), ([0], 1), ([0, 1], 2), ([0, 1], 3), ([0, 1, 2, 3], 4), ([0, 1, 2, 3, 4], 5), ([0, 1, 2, 3, 4, 5], 6), ([0, 1, 2, 3, 4, 5, 6], 7), ([0, 1, 2, 3, 4, 5, 6, 7], 8), ([0, 1, 2, 3, 4, 5, 6, 7, 8], 9), ([0, 1, 2, 3, 4, 5, 6, 7, 8], 10), ([0, 1, 2, 3, 4, 5, 6, 7, 8, 9, 10], 11), ([0, 1, 2, 3, 4, 5, 6, 7, 8, 9, 10, 11], 12), ([0, 1, 2, 3, 4, 5, 6, 7, 8, 9, 10, 11, 12], 13), ([0, 1, 2, 3, 4, 5, 6, 7, 8, 9, 10, 11, 12, 13], 14), ([0, 1, 2, 3, 4, 5, 6, 7, 8, 9, 10, 11, 12, 13, 14], 15), ([0, 1, 2, 3, 4, 5, 6, 7, 8, 9, 10, 11, 12, 13, 14, 15], 16), ([0, 1, 2, 3, 4, 5, 6, 7, 8, 9, 10, 11, 12, 13, 14, 15, 16], 17), ([0, 1, 2, 3, 4, 5, 6, 7, 8, 9, 10, 11, 12, 13, 14, 15, 16, 17], 18), ([0, 1, 2, 3, 4, 5, 6, 7, 8, 9, 10, 11, 12, 13, 14, 15, 16, 17, 18], 19), ([0, 1, 2, 3, 4, 5, 6, 7, 8, 9, 10, 11, 12, 13, 14, 15, 16, 17, 18], 20), ([0, 1, 2, 3, 4, 5, 6, 7, 8, 9, 10, 11, 12, 13, 14, 15, 16, 17, 18, 19, 20], 21), ([0, 1, 2, 3, 4, 5, 6, 7, 8, 9, 10, 11, 12, 13, 14, 15, 16, 17, 18, 19, 20, 21], 22), ([0, 1, 2, 3, 4, 5, 6, 7, 8, 9, 10, 11, 12, 13, 14, 15, 16, 17, 18], 23), ([0, 1, 2, 3, 4, 5, 6, 7, 8, 9, 10, 11, 12, 13, 14, 15, 16, 17, 18], 24), ([0, 1, 2, 3, 4, 5, 6, 7, 8, 9, 10, 11, 12, 13, 14, 15, 16, 17, 18, 24], 25), ([0, 1, 2, 3, 4, 5, 6, 7, 8, 9, 10, 11, 12, 13, 14, 15, 16, 17, 18, 23, 24, 25], 26), ([0, 1, 2, 3, 4, 5, 6, 7, 8, 9, 10, 11, 12, 13, 14, 15, 16, 17, 18, 23, 24, 25, 26], 27), ([0, 1, 2, 3, 4, 5, 6, 7, 8, 9, 10, 11, 12, 13, 14, 15, 16, 17, 18, 19, 20, 21, 22, 23, 24, 25, 26, 27], 28), ([0, 1, 2, 3, 4, 5, 6, 7, 8, 9, 10, 11, 12, 13, 14, 15, 16, 17, 18, 19, 20, 21, 22, 23, 24, 25, 26, 27, 28], 29), ([0, 1, 2, 3, 4, 5, 6, 7, 8, 9, 10, 11, 12, 13, 14, 15, 16, 17, 18, 19, 20, 21, 22, 23, 24, 25, 26, 27, 28, 29], 30), ([0, 1, 2, 3, 4, 5, 6, 7, 8, 9, 10, 11, 12, 13, 14, 15, 16, 17, 18, 19, 20, 21, 22, 23, 24, 25, 26, 27, 28, 29, 30], 31)] 28 (by decide +kernel) ?_; simp) | (refine T_draw tOK tmix [([], 3), ([0], 4), ([0, 1], 0), ([0, 1], 5), ([0, 1], 6), ([0, 1, 3, 4], 7), ([0, 1, 2, 3, 4, 5], 1), ([0, 1], 8), ([0, 1], 9), ([0, 1, 8], 10), ([0, 1, 7, 8, 9], 11), ([0, 1, 2, 3, 4, 5, 6, 7, 8, 9, 10], 2), ([0, 1, 2, 3, 4, 5, 6, 7, 8, 9, 10, 11], 12), ([0, 1], 13), ([0, 1, 13], 14), ([0, 1, 13, 14], 15), ([0, 1, 2, 3, 4, 5, 6, 7, 8, 9, 10, 11, 12, 13, 14, 15], 16), ([0, 1, 2, 3, 4, 5, 6, 7, 8, 9, 10, 11, 12, 13, 14, 15, 16], 17), ([0, 1, 2, 3, 4, 5, 6, 7, 8, 9, 10, 11, 12, 13, 14, 15, 16, 17], 18)] 16 (by decide +kernel) ?_; simp))
    refine C_right hlb ?_
    cases hok : okL l with
    | false =>
      repeat (first | (rw [afterRF_ret]; simp ) | with_reducible apply_assumption -exfalso -symm)
      repeat (first | (refine T_seqk fun K hK => ?_) | (refine T_reg tOK rfl ?_; simp) | (refine T_ret ?_; try simp) | (refine T_skip ?_; try simp) | (refine T_blockk fun K hK => ?_) | (with_reducible apply_assumption -exfalso -symm) | (rw [afterRF_ret]; simp) | (refine T_exit ?_; try simp) | (refine T_cond_t ?_ ?_; · (simp; done)) | (refine T_cond_f ?_ ?_; · (simp; done)) | (rintro _ _ (_ | _) hz9 <;> first | (simp; done) | (simp at hz9; done)) | (refine And.intro ?_ ?_) | (simp only [Post.block_ret, Post.block_exit, Post.block_normal, Post.block_pan, Post.seq_ret, Post.seq_exit, Post.seq_normal, Post.seq_pan]; try simp) | (refine T_draw tOK tmix [([], 0), ([0], 1), ([0, 1], 2), ([0, 1], 3), ([0, 1, 2, 3], 4), ([0, 1, 2, 3, 4], 5), ([0, 1, 2, 3, 4, 5], 6), ([0, 1, 2, 3, 4, 5, 6], 7), ([0, 1, 2, 3, 4, 5, 6, 7], 8), ([0, 1, 2, 3, 4, 5, 6, 7, 8], 9), ([0, 1, 2, 3, 4, 5, 6, 7, 8], 10), ([0, 1, 2, 3, 4, 5, 6, 7, 8, 9, 10], 11), ([0, 1, 2, 3, 4, 5, 6, 7, 8, 9, 10, 11], 12), ([0, 1, 2, 3, 4, 5, 6, 7, 8, 9, 10, 11, 12], 13), ([0, 1, 2, 3, 4, 5, 6, 7, 8, 9, 10, 11, 12, 13], 14), ([0, 1, 2, 3, 4, 5, 6, 7, 8, 9, 10, 11, 12, 13, 14], 15), ([0, 1, 2, 3, 4, 5, 6, 7, 8, 9, 10, 11, 12, 13, 14, 15], 16), ([0, 1, 2, 3, 4, 5, 6, 7, 8, 9, 10, 11, 12, 13, 14, 15, 16], 17), ([0, 1, 2, 3, 4, 5, 6, 7, 8, 9, 10, 11, 12, 13, 14, 15, 16, 17], 18), ([0, 1, 2, 3, 4, 5, 6, 7, 8, 9, 10, 11, 12, 13, 14, 15, 16, 17, 18], 19), ([0, 1, 2, 3, 4, 5, 6, 7, 8, 9, 10, 11, 12, 13, 14, 15, 16, 17, 18], 20), ([0, 1, 2, 3, 4, 5, 6, 7, 8, 9, 10, 11, 12, 13, 14, 15, 16, 17, 18, 19, 20], 21), ([0, 1, 2, 3, 4, 5, 6, 7, 8, 9, 10, 11, 12, 13, 14, 15, 16, 17, 18, 19, 20, 21], 22), ([0, 1, 2, 3, 4, 5, 6, 7, 8, 9, 10, 11, 12, 13, 14, 15, 16, 17, 18], 23), ([0, 1, 2, 3, 4, 5, 6, 7, 8, 9, 10, 11, 12, 13, 14, 15, 16, 17, 18], 24), ([0, 1, 2, 3, 4, 5, 6, 7, 8, 9, 10, 11, 12, 13, 14, 15, 16, 17, 18, 24], 25), ([0, 1, 2, 3, 4, 5, 6, 7, 8, 9, 10, 11, 12, 13, 14, 15, 16, 17, 18, 23, 24, 25], 26), ([0, 1, 2, 3, 4, 5, 6, 7, 8, 9, 10, 11, 12, 13, 14, 15, 16, 17, 18, 23, 24, 25, 26], 27), ([0, 1, 2, 3, 4, 5, 6, 7, 8, 9, 10, 11, 12, 13, 14, 15, 16, 17, 18, 19, 20, 21, 22, 23, 24, 25, 26, 27], 28), ([0, 1, 2, 3, 4, 5, 6, 7, 8, 9, 10, 11, 12, 13, 14, 15, 16, 17, 18, 19, 20, 21, 22, 23, 24, 25, 26, 27, 28], 29), ([0, 1, 2, 3, 4, 5, 6, 7, 8, 9, 10, 11, 12, 13, 14, 15, 16, 17, 18, 19, 20, 21, 22, 23, 24, 25, 26, 27, 28, 29], 30), ([0, 1, 2, 3, 4, 5, 6, 7, 8, 9, 10, 11, 12, 13, 14, 15, 16, 17, 18, 19, 20, 21, 22, 23, 24, 25, 26, 27, 28, 29, 30], 31)] 28 (by decide +kernel) ?_; simp) | (refine T_draw tOK tmix [([], 3), ([0], 4), ([0, 1], 0), ([0, 1], 5), ([0, 1], 6), ([0, 1, 3, 4], 7), ([0, 1, 2, 3, 4, 5], 1), ([0, 1], 8), ([0, 1], 9), ([0, 1, 8], 10), ([0, 1, 7, 8, 9], 11), ([0, 1, 2, 3, 4, 5, 6, 7, 8, 9, 10], 2), ([0, 1, 2, 3, 4, 5, 6, 7, 8, 9, 10, 11], 12), ([0, 1], 13), ([0, 1, 13], 14), ([0, 1, 13, 14], 15), ([0, 1, 2, 3, 4, 5, 6, 7, 8, 9, 10, 11, 12, 13, 14, 15], 16), ([0, 1, 2, 3, 4, 5, 6, 7, 8, 9, 10, 11, 12, 13, 14, 15, 16], 17), ([0, 1, 2, 3, 4, 5, 6, 7, 8, 9, 10, 11, 12, 13, 14, 15, 16, 17], 18)] 16 (by decide +kernel) ?_; simp))
      refine C_right hlb ?_
      rw [hok]
      repeat (first | (rw [afterRF_ret]; simp ) | with_reducible apply_assumption -exfalso -symm)
      repeat (first | (refine T_seqk fun K hK => ?_) | (refine T_reg tOK rfl ?_; simp) | (refine T_ret ?_; try simp) | (refine T_skip ?_; try simp) | (refine T_blockk fun K hK => ?_) | (with_reducible apply_assumption -exfalso -symm) | (rw [afterRF_ret]; simp) | (refine T_exit ?_; try simp) | (refine T_cond_t ?_ ?_; · (simp; done)) | (refine T_cond_f ?_ ?_; · (simp; done)) | (rintro _ _ (_ | _) hz9 <;> first | (simp; done) | (simp at hz9; done)) | (refine And.intro ?_ ?_) | (simp only [Post.block_ret, Post.block_exit, Post.block_normal, Post.block_pan, Post.seq_ret, Post.seq_exit, Post.seq_normal, Post.seq_pan]; try simp) | (refine T_draw tOK tmix [([], 0), ([0], 1), ([0, 1], 2), ([0, 1], 3), ([0, 1, 2, 3], 4), ([0, 1, 2, 3, 4], 5), ([0, 1, 2, 3, 4, 5], 6), ([0, 1, 2, 3, 4, 5, 6], 7), ([0, 1, 2, 3, 4, 5, 6, 7], 8), ([0, 1, 2, 3, 4, 5, 6, 7, 8], 9), ([0, 1, 2, 3, 4, 5, 6, 7, 8], 10), ([0, 1, 2, 3, 4, 5, 6, 7, 8, 9, 10], 11), ([0, 1, 2, 3, 4, 5, 6, 7, 8, 9, 10, 11], 12), ([0, 1, 2, 3, 4, 5, 6, 7, 8, 9, 10, 11, 12], 13), ([0, 1, 2, 3, 4, 5, 6, 7, 8, 9, 10, 11, 12, 13], 14), ([0, 1, 2, 3, 4, 5, 6, 7, 8, 9, 10, 11, 12, 13, 14], 15), ([0, 1, 2, 3, 4, 5, 6, 7, 8, 9, 10, 11, 12, 13, 14, 15], 16), ([0, 1, 2, 3, 4, 5, 6, 7, 8, 9, 10, 11, 12, 13, 14, 15, 16], 17), ([0, 1, 2, 3, 4, 5, 6, 7, 8, 9, 10, 11, 12, 13, 14, 15, 16, 17], 18), ([0, 1, 2, 3, 4, 5, 6, 7, 8, 9, 10, 11, 12, 13, 14, 15, 16, 17, 18], 19), ([0, 1, 2, 3, 4, 5, 6, 7, 8, 9, 10, 11, 12, 13, 14, 15, 16, 17, 18], 20), ([0, 1, 2, 3, 4, 5, 6, 7, 8, 9, 10, 11, 12, 13, 14, 15, 16, 17, 18, 19, 20], 21), ([0, 1, 2, 3, 4, 5, 6, 7, 8, 9, 10, 11, 12, 13, 14, 15, 16, 17, 18, 19, 20, 21], 22), ([0, 1, 2, 3, 4, 5, 6, 7, 8, 9, 10, 11, 12, 13, 14, 15, 16, 17, 18], 23), ([0, 1, 2, 3, 4, 5, 6, 7, 8, 9, 10, 11, 12, 13, 14, 15, 16, 17, 18], 24), ([0, 1, 2, 3, 4, 5, 6, 7, 8, 9, 10, 11, 12, 13, 14, 15, 16, 17, 18, 24], 25), ([0, 1, 2, 3, 4, 5, 6, 7, 8, 9, 10, 11, 12, 13, 14, 15, 16, 17, 18, 23, 24, 25], 26), ([0, 1, 2, 3, 4, 5, 6, 7, 8, 9, 10, 11, 12, 13, 14, 15, 16, 17, 18, 23, 24, 25, 26], 27), ([0, 1, 2, 3, 4, 5, 6, 7, 8, 9, 10, 11, 12, 13, 14, 15, 16, 17, 18, 19, 20, 21, 22, 23, 24, 25, 26, 27], 28), ([0, 1, 2, 3, 4, 5, 6, 7, 8, 9, 10, 11, 12, 13, 14, 15, 16, 17, 18, 19, 20, 21, 22, 23, 24, 25, 26, 27, 28], 29), ([0, 1, 2, 3, 4, 5, 6, 7, 8, 9, 10, 11, 12, 13, 14, 15, 16, 17, 18, 19, 20, 21, 22, 23, 24, 25, 26, 27, 28, 29], 30), ([0, 1, 2, 3, 4, 5, 6, 7, 8, 9, 10, 11, 12, 13, 14, 15, 16, 17, 18, 19, 20, 21, 22, 23, 24, 25, 26, 27, 28, 29, 30], 31)] 28 (by decide +kernel) ?_; simp) | (refine T_draw tOK tmix [([], 3), ([0], 4), ([0, 1], 0), ([0, 1], 5), ([0, 1], 6), ([0, 1, 3, 4], 7), ([0, 1, 2, 3, 4, 5], 1), ([0, 1], 8), ([0, 1], 9), ([0, 1, 8], 10), ([0, 1, 7, 8, 9], 11), ([0, 1, 2, 3, 4, 5, 6, 7, 8, 9, 10], 2), ([0, 1, 2, 3, 4, 5, 6, 7, 8, 9, 10, 11], 12), ([0, 1], 13), ([0, 1, 13], 14), ([0, 1, 13, 14], 15), ([0, 1, 2, 3, 4, 5, 6, 7, 8, 9, 10, 11, 12, 13, 14, 15], 16), ([0, 1, 2, 3, 4, 5, 6, 7, 8, 9, 10, 11, 12, 13, 14, 15, 16], 17), ([0, 1, 2, 3, 4, 5, 6, 7, 8, 9, 10, 11, 12, 13, 14, 15, 16, 17], 18)] 16 (by decide +kernel) ?_; simp))
    | true =>
      have hne : ¬ l = [] := by rintro rfl; simp [okL] at hok
      have h0 : 0 < l.length := List.length_pos_iff.2 hne
      have wa : IntKind.i64.wrap (at0.toNat : Int) = at0.toNat := IntWalk.i64_in _ (by have := at0.toNat_lt; omega)
      obtain ⟨k, hk⟩ : ∃ k, at0.toNat % l.length = k := ⟨_, rfl⟩
      have hkl : k < l.length := by rw [← hk]; exact Nat.mod_lt _ h0
      have wt : (at0.toNat : Int).tmod (l.length : Int) = (k : Int) := by rw [← hk]; rfl
      have hw1 : IntKind.i64.wrap ((k : Int) + 1) = ((k + 1 : Nat) : Int) := by rw [IntWalk.i64_in _ (by omega)]; omega
      push_cast at hw1
      have tk : (is l).take k = is (l.take k) := by simp [is, List.map_take]
      have dr : (is l).drop (k + 1) = is (l.drop (k + 1)) := by simp [is, List.map_drop]
      have q1 : k ≤ l.length := by omega
      have q2 : (0 : Int) ≤ (k : Int) + 1 := by omega
      have q3 : ((k : Int) + 1).toNat = k + 1 := by omega
      have q4 : (k : Int) + 1 ≤ l.length := by omega
      have q5 : k + 1 ≤ l.length := by omega
      have l1 : (is (l.take k)).length = k := by rw [is_len]; simp; omega
      have l2 : (is (l.drop (k + 1))).length = l.length - (k + 1) := by rw [is_len]; simp
      have tl : (is l).take l.length = is l := by rw [← hll, List.take_length]
      have q6 : (2 * k + 1000) * 8 ≤ 281474976710656 := by omega
      have q7 : (2 * (k + (l.length - (k + 1))) + 1000) * 8 ≤ 281474976710656 := by omega
      repeat (first | (rw [afterRF_ret]; simp ) | with_reducible apply_assumption -exfalso -symm)
      repeat (first | (refine T_seqk fun K hK => ?_) | (refine T_reg tOK rfl ?_; simp [hne,wa,wt,hll,hw1,tk,dr,q1,q2,q3,q4,q5,q6,q7,l1,l2,tl,all_is]) | (refine T_ret ?_; try simp) | (refine T_skip ?_; try simp) | (refine T_blockk fun K hK => ?_) | (with_reducible apply_assumption -exfalso -symm) | (rw [afterRF_ret]; simp [hne,wa,wt,hll,hw1,tk,dr,q1,q2,q3,q4,q5,q6,q7,l1,l2,tl,all_is]) | (refine T_exit ?_; try simp) | (refine T_cond_t ?_ ?_; · (simp; done)) | (refine T_cond_f ?_ ?_; · (simp; done)) | (rintro _ _ (_ | _) hz9 <;> first | (simp; done) | (simp at hz9; done)) | (refine And.intro ?_ ?_) | (simp only [Post.block_ret, Post.block_exit, Post.block_normal, Post.block_pan, Post.seq_ret, Post.seq_exit, Post.seq_normal, Post.seq_pan]; try simp [hne,wa,wt,hll,hw1,tk,dr,q1,q2,q3,q4,q5,q6,q7,l1,l2,tl,all_is]) | (refine T_draw tOK tmix [([], 0), ([0], 1), ([0, 1], 2), ([0, 1], 3), ([0, 1, 2, 3], 4), ([0, 1, 2, 3, 4], 5), ([0, 1, 2, 3, 4, 5], 6), ([0, 1, 2, 3, 4, 5, 6], 7), ([0, 1, 2, 3, 4, 5, 6, 7], 8), ([0, 1, 2, 3, 4, 5, 6, 7, 8], 9), ([0, 1, 2, 3, 4, 5, 6, 7, 8], 10), ([0, 1, 2, 3, 4, 5, 6, 7, 8, 9, 10], 11), ([0, 1, 2, 3, 4, 5, 6, 7, 8, 9, 10, 11], 12), ([0, 1, 2, 3, 4, 5, 6, 7, 8, 9, 10, 11, 12], 13), ([0, 1, 2, 3, 4, 5, 6, 7, 8, 9, 10, 11, 12, 13], 14), ([0, 1, 2, 3, 4, 5, 6, 7, 8, 9, 10, 11, 12, 13, 14], 15), ([0, 1, 2, 3, 4, 5, 6, 7, 8, 9, 10, 11, 12, 13, 14, 15], 16), ([0, 1, 2, 3, 4, 5, 6, 7, 8, 9, 10, 11, 12, 13, 14, 15, 16], 17), ([0, 1, 2, 3, 4, 5, 6, 7, 8, 9, 10, 11, 12, 13, 14, 15, 16, 17], 18), ([0, 1, 2, 3, 4, 5, 6, 7, 8, 9, 10, 11, 12, 13, 14, 15, 16, 17, 18], 19), ([0, 1, 2, 3, 4, 5, 6, 7, 8, 9, 10, 11, 12, 13, 14, 15, 16, 17, 18], 20), ([0, 1, 2, 3, 4, 5, 6, 7, 8, 9, 10, 11, 12, 13, 14, 15, 16, 17, 18, 19, 20], 21), ([0, 1, 2, 3, 4, 5, 6, 7, 8, 9, 10, 11, 12, 13, 14, 15, 16, 17, 18, 19, 20, 21], 22), ([0, 1, 2, 3, 4, 5, 6, 7, 8, 9, 10, 11, 12, 13, 14, 15, 16, 17, 18], 23), ([0, 1, 2, 3, 4, 5, 6, 7, 8, 9, 10, 11, 12, 13, 14, 15, 16, 17, 18], 24), ([0, 1, 2, 3, 4, 5, 6, 7, 8, 9, 10, 11, 12, 13, 14, 15, 16, 17, 18, 24], 25), ([0, 1, 2, 3, 4, 5, 6, 7, 8, 9, 10, 11, 12, 13, 14, 15, 16, 17, 18, 23, 24, 25], 26), ([0, 1, 2, 3, 4, 5, 6, 7, 8, 9, 10, 11, 12, 13, 14, 15, 16, 17, 18, 23, 24, 25, 26], 27), ([0, 1, 2, 3, 4, 5, 6, 7, 8, 9, 10, 11, 12, 13, 14, 15, 16, 17, 18, 19, 20, 21, 22, 23, 24, 25, 26, 27], 28), ([0, 1, 2, 3, 4, 5, 6, 7, 8, 9, 10, 11, 12, 13, 14, 15, 16, 17, 18, 19, 20, 21, 22, 23, 24, 25, 26, 27, 28], 29), ([0, 1, 2, 3, 4, 5, 6, 7, 8, 9, 10, 11, 12, 13, 14, 15, 16, 17, 18, 19, 20, 21, 22, 23, 24, 25, 26, 27, 28, 29], 30), ([0, 1, 2, 3, 4, 5, 6, 7, 8, 9, 10, 11, 12, 13, 14, 15, 16, 17, 18, 19, 20, 21, 22, 23, 24, 25, 26, 27, 28, 29, 30], 31)] 28 (by decide +kernel) ?_; simp [hne,wa,wt,hll,hw1,tk,dr,q1,q2,q3,q4,q5,q6,q7,l1,l2,tl,all_is]) | (refine T_draw tOK tmix [([], 3), ([0], 4), ([0, 1], 0), ([0, 1], 5), ([0, 1], 6), ([0, 1, 3, 4], 7), ([0, 1, 2, 3, 4, 5], 1), ([0, 1], 8), ([0, 1], 9), ([0, 1, 8], 10), ([0, 1, 7, 8, 9], 11), ([0, 1, 2, 3, 4, 5, 6, 7, 8, 9, 10], 2), ([0, 1, 2, 3, 4, 5, 6, 7, 8, 9, 10, 11], 12), ([0, 1], 13), ([0, 1, 13], 14), ([0, 1, 13, 14], 15), ([0, 1, 2, 3, 4, 5, 6, 7, 8, 9, 10, 11, 12, 13, 14, 15], 16), ([0, 1, 2, 3, 4, 5, 6, 7, 8, 9, 10, 11, 12, 13, 14, 15, 16], 17), ([0, 1, 2, 3, 4, 5, 6, 7, 8, 9, 10, 11, 12, 13, 14, 15, 16, 17], 18)] 16 (by decide +kernel) ?_; simp [hne,wa,wt,hll,hw1,tk,dr,q1,q2,q3,q4,q5,q6,q7,l1,l2,tl,all_is]))
      have hcat : (is (l.take k)).take k ++ is (l.drop (k + 1)) = is (l.take k ++ l.drop (k + 1)) := by
        rw [List.take_of_length_le (by omega)]; simp [is]
      rw [hcat]
      have hln : k + (l.length - (k + 1)) = (l.take k ++ l.drop (k + 1)).length := by simp; omega
      refine RD_call (rd := [0]) (fun τ hτ => C_right_ref (g := 2) (l := l.take k ++ l.drop (k + 1)) ((hτ 0 (by simp)).trans rfl) hln (by omega) ⟨rfl, rfl⟩) ?_
      rw [okL_less hok hkl]
      have hd1 : decide (1 < (l.length : Int)) = decide (1 < l.length) := by congr 1; simp; omega
      simp [hd1]
      refine ⟨?_, ?_, ?_, hK _ _ ?_⟩
      · intro a l b h; right; cases b <;> rfl
      · intro a l b h; right; cases b <;> rfl
      · intro a l b h; right; cases b <;> rfl
      repeat (first | (refine T_seqk fun K hK => ?_) | (refine T_reg tOK rfl ?_; simp) | (refine T_ret ?_; try simp) | (refine T_skip ?_; try simp) | (refine T_blockk fun K hK => ?_) | (with_reducible apply_assumption -exfalso -symm) | (rw [afterRF_ret]; simp) | (refine T_exit ?_; try simp) | (refine T_cond_t ?_ ?_; · (simp; done)) | (refine T_cond_f ?_ ?_; · (simp; done)) | (rintro _ _ (_ | _) hz9 <;> first | (simp; done) | (simp at hz9; done)) | (refine And.intro ?_ ?_) | (simp only [Post.block_ret, Post.block_exit, Post.block_normal, Post.block_pan, Post.seq_ret, Post.seq_exit, Post.seq_normal, Post.seq_pan]; try simp) | (refine T_draw tOK tmix [([], 0), ([0], 1), ([0, 1], 2), ([0, 1], 3), ([0, 1, 2, 3], 4), ([0, 1, 2, 3, 4], 5), ([0, 1, 2, 3, 4, 5], 6), ([0, 1, 2, 3, 4, 5, 6], 7), ([0, 1, 2, 3, 4, 5, 6, 7], 8), ([0, 1, 2, 3, 4, 5, 6, 7, 8], 9), ([0, 1, 2, 3, 4, 5, 6, 7, 8], 10), ([0, 1, 2, 3, 4, 5, 6, 7, 8, 9, 10], 11), ([0, 1, 2, 3, 4, 5, 6, 7, 8, 9, 10, 11], 12), ([0, 1, 2, 3, 4, 5, 6, 7, 8, 9, 10, 11, 12], 13), ([0, 1, 2, 3, 4, 5, 6, 7, 8, 9, 10, 11, 12, 13], 14), ([0, 1, 2, 3, 4, 5, 6, 7, 8, 9, 10, 11, 12, 13, 14], 15), ([0, 1, 2, 3, 4, 5, 6, 7, 8, 9, 10, 11, 12, 13, 14, 15], 16), ([0, 1, 2, 3, 4, 5, 6, 7, 8, 9, 10, 11, 12, 13, 14, 15, 16], 17), ([0, 1, 2, 3, 4, 5, 6, 7, 8, 9, 10, 11, 12, 13, 14, 15, 16, 17], 18), ([0, 1, 2, 3, 4, 5, 6, 7, 8, 9, 10, 11, 12, 13, 14, 15, 16, 17, 18], 19), ([0, 1, 2, 3, 4, 5, 6, 7, 8, 9, 10, 11, 12, 13, 14, 15, 16, 17, 18], 20), ([0, 1, 2, 3, 4, 5, 6, 7, 8, 9, 10, 11, 12, 13, 14, 15, 16, 17, 18, 19, 20], 21), ([0, 1, 2, 3, 4, 5, 6, 7, 8, 9, 10, 11, 12, 13, 14, 15, 16, 17, 18, 19, 20, 21], 22), ([0, 1, 2, 3, 4, 5, 6, 7, 8, 9, 10, 11, 12, 13, 14, 15, 16, 17, 18], 23), ([0, 1, 2, 3, 4, 5, 6, 7, 8, 9, 10, 11, 12, 13, 14, 15, 16, 17, 18], 24), ([0, 1, 2, 3, 4, 5, 6, 7, 8, 9, 10, 11, 12, 13, 14, 15, 16, 17, 18, 24], 25), ([0, 1, 2, 3, 4, 5, 6, 7, 8, 9, 10, 11, 12, 13, 14, 15, 16, 17, 18, 23, 24, 25], 26), ([0, 1, 2, 3, 4, 5, 6, 7, 8, 9, 10, 11, 12, 13, 14, 15, 16, 17, 18, 23, 24, 25, 26], 27), ([0, 1, 2, 3, 4, 5, 6, 7, 8, 9, 10, 11, 12, 13, 14, 15, 16, 17, 18, 19, 20, 21, 22, 23, 24, 25, 26, 27], 28), ([0, 1, 2, 3, 4, 5, 6, 7, 8, 9, 10, 11, 12, 13, 14, 15, 16, 17, 18, 19, 20, 21, 22, 23, 24, 25, 26, 27, 28], 29), ([0, 1, 2, 3, 4, 5, 6, 7, 8, 9, 10, 11, 12, 13, 14, 15, 16, 17, 18, 19, 20, 21, 22, 23, 24, 25, 26, 27, 28, 29], 30), ([0, 1, 2, 3, 4, 5, 6, 7, 8, 9, 10, 11, 12, 13, 14, 15, 16, 17, 18, 19, 20, 21, 22, 23, 24, 25, 26, 27, 28, 29, 30], 31)] 28 (by decide +kernel) ?_; simp) | (refine T_draw tOK tmix [([], 3), ([0], 4), ([0, 1], 0), ([0, 1], 5), ([0, 1], 6), ([0, 1, 3, 4], 7), ([0, 1, 2, 3, 4, 5], 1), ([0, 1], 8), ([0, 1], 9), ([0, 1, 8], 10), ([0, 1, 7, 8, 9], 11), ([0, 1, 2, 3, 4, 5, 6, 7, 8, 9, 10], 2), ([0, 1, 2, 3, 4, 5, 6, 7, 8, 9, 10, 11], 12), ([0, 1], 13), ([0, 1, 13], 14), ([0, 1, 13, 14], 15), ([0, 1, 2, 3, 4, 5, 6, 7, 8, 9, 10, 11, 12, 13, 14, 15], 16), ([0, 1, 2, 3, 4, 5, 6, 7, 8, 9, 10, 11, 12, 13, 14, 15, 16], 17), ([0, 1, 2, 3, 4, 5, 6, 7, 8, 9, 10, 11, 12, 13, 14, 15, 16, 17], 18)] 16 (by decide +kernel) ?_; simp))
end
end Go.Proofs.Ytphhcpdkemagiaa
end
section
/- From the logic to the statements: what is handed in, and what is asked of the end. -/
set_option linter.unusedVariables false
set_option linter.unusedSimpArgs false
set_option maxRecDepth 4000
namespace Go.Proofs.Ytphhcpdkemagiaa
open Go Go.ChangeShapes Go.RowKit

theorem Try.own : ownKnob Try.prog.godebug = none := by kernel_rfl
theorem Try.laidOut : laidOutB Try.prog = true := by kernel_rfl

section
variable {H : Type} {enc : TypeId × Value → H}
/-- An argument, as a value of the logic's. -/
theorem arg_V {W : World} {sp : Nat → Bool} {held : Bool} {t : TypeId} {v : Value} {d : DataW H} {ps : List MemPlace} {base : Nat} (n : Nat) (hs : simpleT tE n t = true) (hst : ∀ fs, tE.P.underlying t ≠ some (.struct fs)) (harr : ∀ m e, tE.P.underlying t ≠ some (.array m e))
    (hok : Value.okWide tE.P W .any base t v) (h : DataW.Trod enc tE.P W 0 sp held t v d ps) : ∃ x, V tE (cx0 W) x v ∧ Dat tE n t x := by
  obtain ⟨fuel, h⟩ := h
  obtain ⟨x, h1, h2, h3⟩ := trod_VC tOK W fuel n t _ d ps hs h
  have hk := simple_kn hs
  obtain ⟨td, hu, hag⟩ := tOK.und t hk
  have hna : tE.agg t = false := by
    rw [hag]
    cases td <;> first | rfl | (exact absurd hu (hst _)) | (exact absurd hu (harr _ _))
  have hcell : Cell.okWide tE.P W .any base t v := by
    unfold Value.okWide at hok
    rw [hu] at hok
    cases td <;> first | exact hok | (exact absurd hu (hst _)) | (exact absurd hu (harr _ _))
  have hnagg : ∀ cs, v ≠ .agg cs := fun cs e => by
    subst e
    have h5 : Cell.ok tE.P W .any base t (.agg cs) → False := fun hc => by
      unfold Cell.ok at hc
      rw [hu] at hc
      cases td <;> exact hc
    unfold Cell.okWide at hcell
    rw [hu] at hcell
    cases td <;> exact h5 hcell
  have hone : v.cells = #[v] := by
    cases v with
    | agg cs => exact absurd rfl (hnagg cs)
    | _ => rfl
  rw [hone] at h1
  refine ⟨x, V_one h1 (fun t' fs e => ?_), h3⟩
  subst e
  simp only [fits, Bool.and_eq_true, hna] at h2
  exact absurd h2.2 (by simp)

theorem trodAll_stays {W W' : World} (hb : Below W.heap.size W W') : ∀ {ts : List TypeId} {vs : List Value} {ds : List (DataW H)} {ps : List MemPlace}, (∀ t ∈ ts, Try.prog.readableRec t = true ∧ t < Try.prog.types.size) →
    DataW.TrodAll enc Try.prog W 0 (fun _ => true) true ts vs ds ps → (∀ x ∈ ps, x.block < W.heap.size) → DataW.TrodAll enc Try.prog W' 0 (fun b => decide (b < W.heap.size)) true ts vs ds ps
  | [], [], [], ps, _, h, _ => h
  | t :: ts, v :: vs, d :: ds, ps, ht, h, hl => by
    obtain ⟨p, q, h1, h2, rfl⟩ := h
    obtain ⟨k1, k2⟩ := ht t (by simp)
    exact ⟨p, q, Below.trod Try.laidOut k1 k2 h1 hb (fun x hx => hl x (by simp [hx])), trodAll_stays hb (fun t ht' => ht t (by simp [ht'])) h2 (fun x hx => hl x (by simp [hx])), rfl⟩
  | [], _ :: _, _, _, _, h, _ => h.elim
  | [], [], _ :: _, _, _, h, _ => h.elim
  | _ :: _, [], _, _, _, h, _ => h.elim
  | _ :: _, _ :: _, [], _, _, h, _ => h.elim

theorem law_post {s : ChangeSpec} {fn : Func} {W W' : World} {args : Array Value} {ds gs : List (DataW H)} {before : List MemPlace} {fresh : Bool} (hW : DataW.Whole enc Try.prog fn.params.toList s.vars false W args.toList ds gs before) (hb : Below W.heap.size W W')
    (hvars : s.vars = []) (hs : s.fn H (ds ++ gs) = { results := [.lit (.bool true)], args := ds }) (hr : fn.resultTypes = #[4]) (hread : fn.params.toList.all (fun t => Try.prog.readableRec t && decide (t < Try.prog.types.size)) = true) :
    s.post enc Try.prog fn false fresh false false W args (.bool true) W' := by
  have hW' := hW
  obtain ⟨p, q, h1, h2, rfl, h3, h4⟩ := hW
  have hlt := fun x hx => hW'.lt x hx
  have hbool : Try.prog.underlying 4 = some .bool := tOK.td 4 rfl
  refine ⟨ds, gs, p ++ q, [], p, [], hW', ?_, ?_, ?_, ?_, by simp⟩
  · rw [hs, hr]
    cases fresh <;> exact trodAll_mk1 (shut_bool hbool true)
  · rw [hs]
    exact trodAll_stays hb (fun t ht => by simpa using List.all_eq_true.1 hread t ht) h1 (fun x hx => hlt x (by simp [hx]))
  · rw [hvars, hs]; rfl
  · refine ⟨hb.os, hb.output, fun i hi => ?_⟩
    rw [hb.block i hi]
    exact (World.keptBut_refl W (fun x => x ∈ p ++ q ∧ (x ∈ ([] : List MemPlace) ∨ x ∈ p ∨ x ∈ ([] : List MemPlace)))).2.2 i hi

/-- A law that answers true, whatever it is called with. -/
theorem law_calls {f : FuncId} {xs : List PV} {W : World} {args : Array Value} (hv : VL tE (cx0 W) xs args.toList) (hC : ∀ R : Re → Store → Prop, (∀ σ, R (.ret (.bool true)) σ) → C tE f xs [] R) :
    Calls Try.prog f args W fun e W' => e = .returned (.bool true) ∧ Below W.heap.size W W' := by
  have := hC (fun re _ => re = .ret (.bool true)) (fun _ => rfl) (cx0 W) args (Now.cx0 W) hv
  refine Calls.mono this ?_
  rintro e w' ⟨re, σ', cx', rfl, rfl, hre, hn, hs⟩
  refine ⟨?_, ⟨hs.os, hs.tape, hs.output, hs.size, fun k hk => hs.keeps k hk⟩⟩
  cases e <;> simp only [ReOK] at hre
  have := V.bool_inv hre
  rw [this]

theorem dat_int {n : Nat} {x : PV} (h : Dat tE (n + 1) 3 x) : ∃ k, x = i64 k ∧ -9223372036854775808 ≤ k ∧ k ≤ 9223372036854775807 := by
  obtain ⟨k, rfl, hw⟩ := (h : ∃ i, x = .int .i64 i ∧ (Lit.int .i64 i).wf = true)
  refine ⟨k, rfl, ?_⟩
  simp [Lit.wf, IntKind.has, IntKind.min, IntKind.max, IntKind.signed, IntKind.bits] at hw
  omega
theorem dat_u8 {n : Nat} {x : PV} (h : Dat tE (n + 1) 5 x) : ∃ k : UInt8, x = .int .u8 k.toNat := by
  obtain ⟨k, rfl, hw⟩ := (h : ∃ i, x = .int .u8 i ∧ (Lit.int .u8 i).wf = true)
  simp [Lit.wf, IntKind.has, IntKind.min, IntKind.max, IntKind.signed, IntKind.bits] at hw
  refine ⟨UInt8.ofNat k.toNat, ?_⟩
  have : (UInt8.ofNat k.toNat).toNat = k.toNat := by simp; omega
  rw [this]
  congr 1; omega
theorem dat_str {n : Nat} {x : PV} (h : Dat tE (n + 1) 9 x) : ∃ s : ByteArray, x = .str s ∧ s.size ≤ maxLen := h
theorem dat_list {n : Nat} {e t : TypeId} {x : PV} {α : Type} {f : α → PV} {P : α → Prop} (h : ∃ xs, x = .lit xs ∧ xs.length ≤ maxLen ∧ ∀ y ∈ xs, Dat tE n e y) (hf : ∀ y, Dat tE n e y → ∃ a, y = f a ∧ P a) :
    ∃ l : List α, x = .lit (l.map f) ∧ l.length ≤ maxLen ∧ ∀ a ∈ l, P a := by
  obtain ⟨xs, rfl, hl, hx⟩ := h
  have : ∃ l : List α, xs = l.map f ∧ ∀ a ∈ l, P a := by
    clear hl
    induction xs with
    | nil => exact ⟨[], rfl, by simp⟩
    | cons y ys ih =>
      obtain ⟨a, rfl, ha⟩ := hf y (hx y (by simp))
      obtain ⟨l, rfl, hl⟩ := ih fun y hy => hx y (by simp [hy])
      exact ⟨a :: l, rfl, fun b hb => by rcases List.mem_cons.1 hb with rfl | hb; exact ha; exact hl b hb⟩
  obtain ⟨l, rfl, h2⟩ := this
  exact ⟨l, rfl, by simpa using hl, h2⟩
theorem dat_bytes {n : Nat} {x : PV} (h : Dat tE (n + 2) 23 x) : ∃ l : List UInt8, x = u8s l ∧ l.length ≤ maxLen := by
  obtain ⟨l, rfl, h1, _⟩ := dat_list (t := 0) (f := fun b : UInt8 => PV.int .u8 b.toNat) (P := fun _ => True) (h : ∃ xs, x = .lit xs ∧ xs.length ≤ maxLen ∧ ∀ y ∈ xs, Dat tE (n + 1) 5 y) (fun y hy => by
    obtain ⟨k, rfl⟩ := dat_u8 hy
    exact ⟨k, rfl, trivial⟩)
  exact ⟨l, rfl, h1⟩
theorem dat_ints {n : Nat} {x : PV} (h : Dat tE (n + 2) 44 x) : ∃ l : List Int, x = .lit (ints l) ∧ l.length ≤ maxLen ∧ ∀ k ∈ l, -9223372036854775808 ≤ k ∧ k ≤ 9223372036854775807 :=
  dat_list (t := 0) (f := i64) (P := fun k => -9223372036854775808 ≤ k ∧ k ≤ 9223372036854775807) (h : ∃ xs, x = .lit xs ∧ xs.length ≤ maxLen ∧ ∀ y ∈ xs, Dat tE (n + 1) 3 y) (fun y hy => dat_int hy)
end
end Go.Proofs.Ytphhcpdkemagiaa
end
