/- ManifestRight: the walk. -/
import Derived.Test.YtphhcpdkemagiaaXh
import Derived.Test.YtphhcpdkemagiaaXg
section
set_option linter.unusedVariables false
set_option linter.unusedSimpArgs false
set_option maxRecDepth 20000
namespace Go.Proofs.Ytphhcpdkemagiaa
open Go
attribute [local simp] RF_nil RF_cons afterRF_ret nilCmp sop sGuard isCall sCallee Fr.eval Fr.get Fr.put ofConst sLoad sStore sBuiltin Fr.args bodyQ sRes oneOf sBin sInt sUn
attribute [local simp] RD_nil RD_cons noConf clear accAdd Tab.pr Tab.slot foot wid idOf refId Op.operands Call.operands sFieldAddr sNilCheck sLookup keyLit sMapSet sMapDel sLen Store.at Store.new getP setP typeAt fits evalParts sBuildSlice sFill sList sApp sAppend frzRe frz pureB pureL
attribute [local simp] optEval sSlice sIndexAddr xop sClear

/-- Whether the first k numbers are right. -/
def wk (l : List Int) (k : Nat) : Bool := decide (1 ≤ l.length) && decide (l.length ≤ 40) && (l.take k).all inB && rises (l.take k)
theorem rises_snoc : ∀ {l : List Int} {x : Int}, rises (l ++ [x]) = (rises l && (l.isEmpty || decide (l.getLastD 0 < x)))
  | [], x => by simp [rises]
  | [a], x => by simp [rises]
  | a :: b :: l, x => by
    have ih := rises_snoc (l := b :: l) (x := x)
    simp only [List.cons_append] at ih ⊢
    simp only [rises, ih, List.isEmpty_cons, Bool.false_or, Bool.and_assoc]
    simp
theorem wk_zero {l : List Int} : wk l 0 = (decide (1 ≤ l.length) && decide (l.length ≤ 40)) := by simp [wk, rises]
theorem wk_full {l : List Int} : wk l l.length = okL l := by
  unfold wk okL
  rw [List.take_length]
  rfl
theorem wk_succ0 {l : List Int} (h : 0 < l.length) : wk l 1 = (wk l 0 && inB l[0]) := by
  cases l with
  | nil => simp at h
  | cons a l => simp [wk, rises]
theorem wk_succ {l : List Int} {k : Nat} (h : k + 1 < l.length) : wk l (k + 2) = (wk l (k + 1) && inB l[k + 1] && decide (l[k] < l[k + 1])) := by
  unfold wk
  rw [List.take_add_one (i := k + 1), List.getElem?_eq_getElem h]
  simp only [Option.toList, List.all_append, List.all_cons, List.all_nil, Bool.and_true, rises_snoc]
  have h1 : (l.take (k + 1)).isEmpty = false := by cases l <;> simp at h ⊢
  have h2 : (l.take (k + 1)).getLastD 0 = l[k] := by
    rw [List.getLastD_eq_getLast?, List.getLast?_take]
    simp [show k < l.length by omega]
  rw [h1, h2]
  simp only [Bool.false_or]
  generalize decide (1 ≤ l.length) = a
  generalize decide (l.length ≤ 40) = b
  generalize (l.take (k + 1)).all inB = c
  generalize inB l[k + 1] = d
  generalize rises (l.take (k + 1)) = e
  generalize decide (l[k] < l[k + 1]) = f
  revert a b c d e f
  decide
/-- One less is right still, if one is left. -/
theorem okL_less {l : List Int} (h : okL l = true) {k : Nat} (hk : k < l.length) : okL (l.take k ++ l.drop (k + 1)) = decide (1 < l.length) := by
  unfold okL at h ⊢
  simp only [Bool.and_eq_true, decide_eq_true_eq] at h
  obtain ⟨⟨⟨h1, h2⟩, h3⟩, h4⟩ := h
  have hlen : (l.take k ++ l.drop (k + 1)).length = l.length - 1 := by simp; omega
  have hin : (l.take k ++ l.drop (k + 1)).all inB = true := by
    rw [List.all_append, Bool.and_eq_true]
    exact ⟨List.all_eq_true.2 fun x hx => List.all_eq_true.1 h3 x (List.mem_of_mem_take hx), List.all_eq_true.2 fun x hx => List.all_eq_true.1 h3 x (List.mem_of_mem_drop hx)⟩
  have hri : rises (l.take k ++ l.drop (k + 1)) = true := by
    have hp : l.Pairwise (· < ·) := by
      refine List.pairwise_iff_getElem.2 fun i j hi hj hij => ?_
      have hs := rises_iff.1 h4
      have key : ∀ d i, (hi : i + d + 1 < l.length) → l[i] < l[i + d + 1] := by
        intro d
        induction d with
        | zero => intro i hi; have := hs i hi; simpa [hi, show i < l.length by omega] using this
        | succ d ih =>
          intro i hi
          have a := ih i (by omega)
          have b := hs (i + d + 1) hi
          simp only [List.getD_eq_getElem?_getD, List.getElem?_eq_getElem (show i + d + 1 < l.length by omega), List.getElem?_eq_getElem (show i + d + 1 + 1 < l.length by omega), Option.getD_some] at b
          exact Int.lt_trans a b
      have := key (j - i - 1) i (by omega)
      simpa [show i + (j - i - 1) + 1 = j by omega] using this
    have hq : (l.take k ++ l.drop (k + 1)).Pairwise (· < ·) := by
      refine List.Pairwise.sublist ?_ hp
      have : l.take k ++ l.drop (k + 1) = l.eraseIdx k := (List.eraseIdx_eq_take_drop_succ l k).symm
      rw [this]; exact List.eraseIdx_sublist l k
    refine rises_iff.2 fun i hi => ?_
    have := List.pairwise_iff_getElem.1 hq i (i + 1) (by omega) hi (by omega)
    simp only [List.getD_eq_getElem?_getD, List.getElem?_eq_getElem (show i < (l.take k ++ l.drop (k + 1)).length by omega), List.getElem?_eq_getElem hi, Option.getD_some]
    exact this
  rw [hlen, hin, hri]
  simp only [Bool.and_true]
  rw [show decide (l.length - 1 ≤ 40) = true from decide_eq_true (by omega), Bool.and_true]
  congr 1
  simp; omega
theorem wk_step {l : List Int} {k : Nat} (h : k < l.length) : wk l (k + 1) = (wk l k && (decide (0 ≤ l[k]) && (decide (l[k] ≤ 1073741824) && (k == 0 || decide (l[k - 1]! < l[k]))))) := by
  cases k with
  | zero => rw [wk_succ0 h]; simp [inB]
  | succ k =>
    rw [wk_succ h]
    have : l[k + 1 - 1]! = l[k] := by simp [show k < l.length by omega]
    rw [this]
    simp [inB, Bool.and_assoc]
section
variable {E : Env} {N z : Nat} {Q : Post} {fr : Fr} {σ : Store}
/-- A step whose ends all look alike, trimmed. -/
theorem T_seqkk {x y : Code} (ts : List Nat) (fr' : Fr) (σ' : Store) (h1 : ∀ K : Fr → Store → Prop, (∀ fr σ, Fr.keep ts fr = fr' → σ = σ' → K fr σ) → T E N z x (Post.seq K Q) fr σ) (h2 : T E N z y Q fr' σ') : T E N z (.seq x y) Q fr σ :=
  T_seqk fun K hK => h1 K fun fr σ e1 e2 => hK _ _ (T_keep ts (by rw [e1, e2]; exact h2))
end
section
variable {E : Env} {N z : Nat} {Q : Post} {fr : Fr} {σ : Store}
theorem T_fall {c : Code} {fr' : Fr} {σ' : Store} (n : Nat) (ts : List Nat) (hz : z ≤ n) (hfr : Fr.keep ts fr = fr') (hb : belowFr n fr' = true) (hσ : σ.take n = σ') (hall : belowStore n σ' = true) (h : T E N z c Q fr' σ') : T E N z c Q fr σ := fun cx a ht hn hf => by
  subst hfr hσ
  have hn' := hn.upto n (Nat.le_trans ht hz) hall
  have hf0 := hf.keep ts
  have hf' : FR E (cx.upto n) N (Fr.keep ts fr) a.tmps := ⟨hf0.1, fun t x hx => by
    obtain ⟨h1, h2⟩ := hf0.2 t x hx
    refine ⟨h1, VL.lower h2 (n := n) ?_ (fun _ h => h) (fun _ _ => rfl) (fun b h h' => ⟨h', h⟩) (fun b m h => (Cx.upto_mu h).2)⟩
    have := List.all_eq_true.1 hb (t, x) (Fr.get_mem hx)
    simpa [belowL] using this⟩
  have hs : Step (cx.below z) (cx.upto n) := ⟨⟨fun _ h => h, fun _ _ => rfl, fun b hb => ⟨Nat.lt_of_lt_of_le hb.2 hz, hb.1⟩, fun b _ m h => ⟨m, (Cx.upto_mu h).2, Nat.le_refl _, fun _ => rfl⟩⟩, fun _ h => h, fun _ _ => rfl, fun _ h => .inl h,
    fun b m h => .inr ⟨b, m, (Cx.upto_mu h).2, rfl⟩, rfl, fun b hb => by
      rcases Nat.lt_or_ge b z with h | h
      · exact .inl ⟨hb.2, h⟩
      · exact .inr (Nat.le_trans ht h), Nat.le_refl _, rfl, rfl, rfl⟩
  exact wr_mono (h (cx.upto n) a ht hn' hf') fun e a w => Lift.step hs
/-- The same, what was allocated inside forgotten. -/
theorem T_seqkf {x y : Code} (n : Nat) (ts : List Nat) (fr' : Fr) (σ' : Store) (hz : z ≤ n) (hb : belowFr n fr' = true) (hall : belowStore n σ' = true) (h1 : ∀ K : Fr → Store → Prop, (∀ fr σ, Fr.keep ts fr = fr' → σ.take n = σ' → K fr σ) → T E N z x (Post.seq K Q) fr σ) (h2 : T E N z y Q fr' σ') : T E N z (.seq x y) Q fr σ :=
  T_seqk fun K hK => h1 K fun fr σ e1 e2 => hK _ _ (T_fall n ts hz e1 hb e2 hall h2)
end
section
variable {R : Re → Store → Prop} {l : List Int} {at0 : UInt8}
set_option maxHeartbeats 4000000 in
theorem C_mright (h : ∀ σ, R (.ret (.bool true)) σ) : C tE 5 [.lit (is l), .int .u8 at0.toNat] [] R := by
  have hll := is_len l
  cases h9 : decide (900 < (l.length : Int)) with
  | true =>
    refine C_bodyk tOK Try.func5 rfl (Nat.le_of_ble_eq_true rfl) fun K hK => ?_; simp
    repeat (first | (refine T_seqk fun K hK => ?_) | (refine T_reg tOK rfl ?_; simp [hll,h9]) | (refine T_ret ?_; try simp) | (refine T_skip ?_; try simp) | (refine T_blockk fun K hK => ?_) | (with_reducible apply_assumption -exfalso -symm) | (rw [afterRF_ret]; simp [hll,h9]) | (refine T_exit ?_; try simp) | (refine T_cond_t ?_ ?_; · (simp; done)) | (refine T_cond_f ?_ ?_; · (simp; done)) | (rintro _ _ (_ | _) hz9 <;> first | (simp; done) | (simp at hz9; done)) | (refine And.intro ?_ ?_) | (simp only [Post.block_ret, Post.block_exit, Post.block_normal, Post.block_pan, Post.seq_ret, Post.seq_exit, Post.seq_normal, Post.seq_pan]; try simp [hll,h9]) | (refine T_loop (TL_round ?_)) | (refine TL_round ?_) | (refine T_draw tOK tmix [([], 0), ([0], 1), ([0, 1], 2), ([0, 1], 3), ([0, 1, 2, 3], 4), ([0, 1, 2, 3, 4], 5), ([0, 1, 2, 3, 4, 5], 6), ([0, 1, 2, 3, 4, 5, 6], 7), ([0, 1, 2, 3, 4, 5, 6, 7], 8), ([0, 1, 2, 3, 4, 5, 6, 7, 8], 9), ([0, 1, 2, 3, 4, 5, 6, 7, 8], 10), ([0, 1, 2, 3, 4, 5, 6, 7, 8, 9, 10], 11), ([0, 1, 2, 3, 4, 5, 6, 7, 8, 9, 10, 11], 12), ([0, 1, 2, 3, 4, 5, 6, 7, 8, 9, 10, 11, 12], 13), ([0, 1, 2, 3, 4, 5, 6, 7, 8, 9, 10, 11, 12, 13], 14), ([0, 1, 2, 3, 4, 5, 6, 7, 8, 9, 10, 11, 12, 13, 14], 15), ([0, 1, 2, 3, 4, 5, 6, 7, 8, 9, 10, 11, 12, 13, 14, 15], 16), ([0, 1, 2, 3, 4, 5, 6, 7, 8, 9, 10, 11, 12, 13, 14, 15, 16], 17), ([0, 1, 2, 3, 4, 5, 6, 7, 8, 9, 10, 11, 12, 13, 14, 15, 16, 17], 18), ([0, 1, 2, 3, 4, 5, 6, 7, 8, 9, 10, 11, 12, 13, 14, 15, 16, 17, 18], 19), ([0, 1, 2, 3, 4, 5, 6, 7, 8, 9, 10, 11, 12, 13, 14, 15, 16, 17, 18], 20), ([0, 1, 2, 3, 4, 5, 6, 7, 8, 9, 10, 11, 12, 13, 14, 15, 16, 17, 18, 19, 20], 21), ([0, 1, 2, 3, 4, 5, 6, 7, 8, 9, 10, 11, 12, 13, 14, 15, 16, 17, 18, 19, 20, 21], 22), ([0, 1, 2, 3, 4, 5, 6, 7, 8, 9, 10, 11, 12, 13, 14, 15, 16, 17, 18], 23), ([0, 1, 2, 3, 4, 5, 6, 7, 8, 9, 10, 11, 12, 13, 14, 15, 16, 17, 18], 24), ([0, 1, 2, 3, 4, 5, 6, 7, 8, 9, 10, 11, 12, 13, 14, 15, 16, 17, 18, 24], 25), ([0, 1, 2, 3, 4, 5, 6, 7, 8, 9, 10, 11, 12, 13, 14, 15, 16, 17, 18, 23, 24, 25], 26), ([0, 1, 2, 3, 4, 5, 6, 7, 8, 9, 10, 11, 12, 13, 14, 15, 16, 17, 18, 23, 24, 25, 26], 27), ([0, 1, 2, 3, 4, 5, 6, 7, 8, 9, 10, 11, 12, 13, 14, 15, 16, 17, 18, 19, 20, 21, 22, 23, 24, 25, 26, 27], 28), ([0, 1, 2, 3, 4, 5, 6, 7, 8, 9, 10, 11, 12, 13, 14, 15, 16, 17, 18, 19, 20, 21, 22, 23, 24, 25, 26, 27, 28], 29), ([0, 1, 2, 3, 4, 5, 6, 7, 8, 9, 10, 11, 12, 13, 14, 15, 16, 17, 18, 19, 20, 21, 22, 23, 24, 25, 26, 27, 28, 29], 30), ([0, 1, 2, 3, 4, 5, 6, 7, 8, 9, 10, 11, 12, 13, 14, 15, 16, 17, 18, 19, 20, 21, 22, 23, 24, 25, 26, 27, 28, 29, 30], 31)] 28 (by decide +kernel) ?_; simp [hll,h9]) | (refine T_draw tOK tmix [([], 3), ([0], 4), ([0, 1], 0), ([0, 1], 5), ([0, 1], 6), ([0, 1, 3, 4], 7), ([0, 1, 2, 3, 4, 5], 1), ([0, 1], 8), ([0, 1], 9), ([0, 1, 8], 10), ([0, 1, 7, 8, 9], 11), ([0, 1, 2, 3, 4, 5, 6, 7, 8, 9, 10], 2), ([0, 1, 2, 3, 4, 5, 6, 7, 8, 9, 10, 11], 12), ([0, 1], 13), ([0, 1, 13], 14), ([0, 1, 13, 14], 15), ([0, 1, 2, 3, 4, 5, 6, 7, 8, 9, 10, 11, 12, 13, 14, 15], 16), ([0, 1, 2, 3, 4, 5, 6, 7, 8, 9, 10, 11, 12, 13, 14, 15, 16], 17), ([0, 1, 2, 3, 4, 5, 6, 7, 8, 9, 10, 11, 12, 13, 14, 15, 16, 17], 18)] 16 (by decide +kernel) ?_; simp [hll,h9]))
    refine C_mhead ?_
    repeat (first | (refine T_seqk fun K hK => ?_) | (refine T_reg tOK rfl ?_; simp [hll,h9]) | (refine T_ret ?_; try simp) | (refine T_skip ?_; try simp) | (refine T_blockk fun K hK => ?_) | (with_reducible apply_assumption -exfalso -symm) | (rw [afterRF_ret]; simp [hll,h9]) | (refine T_exit ?_; try simp) | (refine T_cond_t ?_ ?_; · (simp; done)) | (refine T_cond_f ?_ ?_; · (simp; done)) | (rintro _ _ (_ | _) hz9 <;> first | (simp; done) | (simp at hz9; done)) | (refine And.intro ?_ ?_) | (simp only [Post.block_ret, Post.block_exit, Post.block_normal, Post.block_pan, Post.seq_ret, Post.seq_exit, Post.seq_normal, Post.seq_pan]; try simp [hll,h9]) | (refine T_draw tOK tmix [([], 0), ([0], 1), ([0, 1], 2), ([0, 1], 3), ([0, 1, 2, 3], 4), ([0, 1, 2, 3, 4], 5), ([0, 1, 2, 3, 4, 5], 6), ([0, 1, 2, 3, 4, 5, 6], 7), ([0, 1, 2, 3, 4, 5, 6, 7], 8), ([0, 1, 2, 3, 4, 5, 6, 7, 8], 9), ([0, 1, 2, 3, 4, 5, 6, 7, 8], 10), ([0, 1, 2, 3, 4, 5, 6, 7, 8, 9, 10], 11), ([0, 1, 2, 3, 4, 5, 6, 7, 8, 9, 10, 11], 12), ([0, 1, 2, 3, 4, 5, 6, 7, 8, 9, 10, 11, 12], 13), ([0, 1, 2, 3, 4, 5, 6, 7, 8, 9, 10, 11, 12, 13], 14), ([0, 1, 2, 3, 4, 5, 6, 7, 8, 9, 10, 11, 12, 13, 14], 15), ([0, 1, 2, 3, 4, 5, 6, 7, 8, 9, 10, 11, 12, 13, 14, 15], 16), ([0, 1, 2, 3, 4, 5, 6, 7, 8, 9, 10, 11, 12, 13, 14, 15, 16], 17), ([0, 1, 2, 3, 4, 5, 6, 7, 8, 9, 10, 11, 12, 13, 14, 15, 16, 17], 18), ([0, 1, 2, 3, 4, 5, 6, 7, 8, 9, 10, 11, 12, 13, 14, 15, 16, 17, 18], 19), ([0, 1, 2, 3, 4, 5, 6, 7, 8, 9, 10, 11, 12, 13, 14, 15, 16, 17, 18], 20), ([0, 1, 2, 3, 4, 5, 6, 7, 8, 9, 10, 11, 12, 13, 14, 15, 16, 17, 18, 19, 20], 21), ([0, 1, 2, 3, 4, 5, 6, 7, 8, 9, 10, 11, 12, 13, 14, 15, 16, 17, 18, 19, 20, 21], 22), ([0, 1, 2, 3, 4, 5, 6, 7, 8, 9, 10, 11, 12, 13, 14, 15, 16, 17, 18], 23), ([0, 1, 2, 3, 4, 5, 6, 7, 8, 9, 10, 11, 12, 13, 14, 15, 16, 17, 18], 24), ([0, 1, 2, 3, 4, 5, 6, 7, 8, 9, 10, 11, 12, 13, 14, 15, 16, 17, 18, 24], 25), ([0, 1, 2, 3, 4, 5, 6, 7, 8, 9, 10, 11, 12, 13, 14, 15, 16, 17, 18, 23, 24, 25], 26), ([0, 1, 2, 3, 4, 5, 6, 7, 8, 9, 10, 11, 12, 13, 14, 15, 16, 17, 18, 23, 24, 25, 26], 27), ([0, 1, 2, 3, 4, 5, 6, 7, 8, 9, 10, 11, 12, 13, 14, 15, 16, 17, 18, 19, 20, 21, 22, 23, 24, 25, 26, 27], 28), ([0, 1, 2, 3, 4, 5, 6, 7, 8, 9, 10, 11, 12, 13, 14, 15, 16, 17, 18, 19, 20, 21, 22, 23, 24, 25, 26, 27, 28], 29), ([0, 1, 2, 3, 4, 5, 6, 7, 8, 9, 10, 11, 12, 13, 14, 15, 16, 17, 18, 19, 20, 21, 22, 23, 24, 25, 26, 27, 28, 29], 30), ([0, 1, 2, 3, 4, 5, 6, 7, 8, 9, 10, 11, 12, 13, 14, 15, 16, 17, 18, 19, 20, 21, 22, 23, 24, 25, 26, 27, 28, 29, 30], 31)] 28 (by decide +kernel) ?_; simp [hll,h9]) | (refine T_draw tOK tmix [([], 3), ([0], 4), ([0, 1], 0), ([0, 1], 5), ([0, 1], 6), ([0, 1, 3, 4], 7), ([0, 1, 2, 3, 4, 5], 1), ([0, 1], 8), ([0, 1], 9), ([0, 1, 8], 10), ([0, 1, 7, 8, 9], 11), ([0, 1, 2, 3, 4, 5, 6, 7, 8, 9, 10], 2), ([0, 1, 2, 3, 4, 5, 6, 7, 8, 9, 10, 11], 12), ([0, 1], 13), ([0, 1, 13], 14), ([0, 1, 13, 14], 15), ([0, 1, 2, 3, 4, 5, 6, 7, 8, 9, 10, 11, 12, 13, 14, 15], 16), ([0, 1, 2, 3, 4, 5, 6, 7, 8, 9, 10, 11, 12, 13, 14, 15, 16], 17), ([0, 1, 2, 3, 4, 5, 6, 7, 8, 9, 10, 11, 12, 13, 14, 15, 16, 17], 18)] 16 (by decide +kernel) ?_; simp [hll,h9]))
  | false =>
    have hl9 : l.length ≤ 900 := by simp at h9; omega
    have h1d : decide (1 ≤ (l.length : Int)) = decide (1 ≤ l.length) := by congr 1; simp; omega
    have h40 : decide ((l.length : Int) ≤ 40) = decide (l.length ≤ 40) := by congr 1; simp; omega
    refine C_bodyk tOK Try.func5 rfl (Nat.le_of_ble_eq_true rfl) fun K hK => ?_; simp
    repeat (first | (refine T_seqk fun K hK => ?_) | (refine T_reg tOK rfl ?_; simp [hll,h9]) | (refine T_ret ?_; try simp) | (refine T_skip ?_; try simp) | (refine T_blockk fun K hK => ?_) | (with_reducible apply_assumption -exfalso -symm) | (rw [afterRF_ret]; simp [hll,h9]) | (refine T_exit ?_; try simp) | (refine T_cond_t ?_ ?_; · (simp; done)) | (refine T_cond_f ?_ ?_; · (simp; done)) | (rintro _ _ (_ | _) hz9 <;> first | (simp; done) | (simp at hz9; done)) | (refine And.intro ?_ ?_) | (simp only [Post.block_ret, Post.block_exit, Post.block_normal, Post.block_pan, Post.seq_ret, Post.seq_exit, Post.seq_normal, Post.seq_pan]; try simp [hll,h9]) | (refine T_loop (TL_round ?_)) | (refine TL_round ?_) | (refine T_draw tOK tmix [([], 0), ([0], 1), ([0, 1], 2), ([0, 1], 3), ([0, 1, 2, 3], 4), ([0, 1, 2, 3, 4], 5), ([0, 1, 2, 3, 4, 5], 6), ([0, 1, 2, 3, 4, 5, 6], 7), ([0, 1, 2, 3, 4, 5, 6, 7], 8), ([0, 1, 2, 3, 4, 5, 6, 7, 8], 9), ([0, 1, 2, 3, 4, 5, 6, 7, 8], 10), ([0, 1, 2, 3, 4, 5, 6, 7, 8, 9, 10], 11), ([0, 1, 2, 3, 4, 5, 6, 7, 8, 9, 10, 11], 12), ([0, 1, 2, 3, 4, 5, 6, 7, 8, 9, 10, 11, 12], 13), ([0, 1, 2, 3, 4, 5, 6, 7, 8, 9, 10, 11, 12, 13], 14), ([0, 1, 2, 3, 4, 5, 6, 7, 8, 9, 10, 11, 12, 13, 14], 15), ([0, 1, 2, 3, 4, 5, 6, 7, 8, 9, 10, 11, 12, 13, 14, 15], 16), ([0, 1, 2, 3, 4, 5, 6, 7, 8, 9, 10, 11, 12, 13, 14, 15, 16], 17), ([0, 1, 2, 3, 4, 5, 6, 7, 8, 9, 10, 11, 12, 13, 14, 15, 16, 17], 18), ([0, 1, 2, 3, 4, 5, 6, 7, 8, 9, 10, 11, 12, 13, 14, 15, 16, 17, 18], 19), ([0, 1, 2, 3, 4, 5, 6, 7, 8, 9, 10, 11, 12, 13, 14, 15, 16, 17, 18], 20), ([0, 1, 2, 3, 4, 5, 6, 7, 8, 9, 10, 11, 12, 13, 14, 15, 16, 17, 18, 19, 20], 21), ([0, 1, 2, 3, 4, 5, 6, 7, 8, 9, 10, 11, 12, 13, 14, 15, 16, 17, 18, 19, 20, 21], 22), ([0, 1, 2, 3, 4, 5, 6, 7, 8, 9, 10, 11, 12, 13, 14, 15, 16, 17, 18], 23), ([0, 1, 2, 3, 4, 5, 6, 7, 8, 9, 10, 11, 12, 13, 14, 15, 16, 17, 18], 24), ([0, 1, 2, 3, 4, 5, 6, 7, 8, 9, 10, 11, 12, 13, 14, 15, 16, 17, 18, 24], 25), ([0, 1, 2, 3, 4, 5, 6, 7, 8, 9, 10, 11, 12, 13, 14, 15, 16, 17, 18, 23, 24, 25], 26), ([0, 1, 2, 3, 4, 5, 6, 7, 8, 9, 10, 11, 12, 13, 14, 15, 16, 17, 18, 23, 24, 25, 26], 27), ([0, 1, 2, 3, 4, 5, 6, 7, 8, 9, 10, 11, 12, 13, 14, 15, 16, 17, 18, 19, 20, 21, 22, 23, 24, 25, 26, 27], 28), ([0, 1, 2, 3, 4, 5, 6, 7, 8, 9, 10, 11, 12, 13, 14, 15, 16, 17, 18, 19, 20, 21, 22, 23, 24, 25, 26, 27, 28], 29), ([0, 1, 2, 3, 4, 5, 6, 7, 8, 9, 10, 11, 12, 13, 14, 15, 16, 17, 18, 19, 20, 21, 22, 23, 24, 25, 26, 27, 28, 29], 30), ([0, 1, 2, 3, 4, 5, 6, 7, 8, 9, 10, 11, 12, 13, 14, 15, 16, 17, 18, 19, 20, 21, 22, 23, 24, 25, 26, 27, 28, 29, 30], 31)] 28 (by decide +kernel) ?_; simp [hll,h9]) | (refine T_draw tOK tmix [([], 3), ([0], 4), ([0, 1], 0), ([0, 1], 5), ([0, 1], 6), ([0, 1, 3, 4], 7), ([0, 1, 2, 3, 4, 5], 1), ([0, 1], 8), ([0, 1], 9), ([0, 1, 8], 10), ([0, 1, 7, 8, 9], 11), ([0, 1, 2, 3, 4, 5, 6, 7, 8, 9, 10], 2), ([0, 1, 2, 3, 4, 5, 6, 7, 8, 9, 10, 11], 12), ([0, 1], 13), ([0, 1, 13], 14), ([0, 1, 13, 14], 15), ([0, 1, 2, 3, 4, 5, 6, 7, 8, 9, 10, 11, 12, 13, 14, 15], 16), ([0, 1, 2, 3, 4, 5, 6, 7, 8, 9, 10, 11, 12, 13, 14, 15, 16], 17), ([0, 1, 2, 3, 4, 5, 6, 7, 8, 9, 10, 11, 12, 13, 14, 15, 16, 17], 18)] 16 (by decide +kernel) ?_; simp [hll,h9]))
    refine C_mhead ?_
    repeat (first | (rw [afterRF_ret]; simp [hll,h9]) | with_reducible apply_assumption -exfalso -symm)
    refine T_seqkk [0, 1, 5] [(0, .lit (is l)), (1, .int .u8 at0.toNat), (5, .bool true)] [] (fun K hK => ?_) ?_
    · repeat (first | (refine T_seqk fun K hK => ?_) | (refine T_reg tOK rfl ?_; simp [hll,h9,Fr.keep]) | (refine T_ret ?_; try simp) | (refine T_skip ?_; try simp) | (refine T_blockk fun K hK => ?_) | (with_reducible apply_assumption -exfalso -symm) | (rw [afterRF_ret]; simp [hll,h9,Fr.keep]) | (refine T_exit ?_; try simp) | (refine T_cond_t ?_ ?_; · (simp; done)) | (refine T_cond_f ?_ ?_; · (simp; done)) | (rintro _ _ (_ | _) hz9 <;> first | (simp; done) | (simp at hz9; done)) | (refine And.intro ?_ ?_) | (simp only [Post.block_ret, Post.block_exit, Post.block_normal, Post.block_pan, Post.seq_ret, Post.seq_exit, Post.seq_normal, Post.seq_pan]; try simp [hll,h9,Fr.keep]) | (refine T_draw tOK tmix [([], 0), ([0], 1), ([0, 1], 2), ([0, 1], 3), ([0, 1, 2, 3], 4), ([0, 1, 2, 3, 4], 5), ([0, 1, 2, 3, 4, 5], 6), ([0, 1, 2, 3, 4, 5, 6], 7), ([0, 1, 2, 3, 4, 5, 6, 7], 8), ([0, 1, 2, 3, 4, 5, 6, 7, 8], 9), ([0, 1, 2, 3, 4, 5, 6, 7, 8], 10), ([0, 1, 2, 3, 4, 5, 6, 7, 8, 9, 10], 11), ([0, 1, 2, 3, 4, 5, 6, 7, 8, 9, 10, 11], 12), ([0, 1, 2, 3, 4, 5, 6, 7, 8, 9, 10, 11, 12], 13), ([0, 1, 2, 3, 4, 5, 6, 7, 8, 9, 10, 11, 12, 13], 14), ([0, 1, 2, 3, 4, 5, 6, 7, 8, 9, 10, 11, 12, 13, 14], 15), ([0, 1, 2, 3, 4, 5, 6, 7, 8, 9, 10, 11, 12, 13, 14, 15], 16), ([0, 1, 2, 3, 4, 5, 6, 7, 8, 9, 10, 11, 12, 13, 14, 15, 16], 17), ([0, 1, 2, 3, 4, 5, 6, 7, 8, 9, 10, 11, 12, 13, 14, 15, 16, 17], 18), ([0, 1, 2, 3, 4, 5, 6, 7, 8, 9, 10, 11, 12, 13, 14, 15, 16, 17, 18], 19), ([0, 1, 2, 3, 4, 5, 6, 7, 8, 9, 10, 11, 12, 13, 14, 15, 16, 17, 18], 20), ([0, 1, 2, 3, 4, 5, 6, 7, 8, 9, 10, 11, 12, 13, 14, 15, 16, 17, 18, 19, 20], 21), ([0, 1, 2, 3, 4, 5, 6, 7, 8, 9, 10, 11, 12, 13, 14, 15, 16, 17, 18, 19, 20, 21], 22), ([0, 1, 2, 3, 4, 5, 6, 7, 8, 9, 10, 11, 12, 13, 14, 15, 16, 17, 18], 23), ([0, 1, 2, 3, 4, 5, 6, 7, 8, 9, 10, 11, 12, 13, 14, 15, 16, 17, 18], 24), ([0, 1, 2, 3, 4, 5, 6, 7, 8, 9, 10, 11, 12, 13, 14, 15, 16, 17, 18, 24], 25), ([0, 1, 2, 3, 4, 5, 6, 7, 8, 9, 10, 11, 12, 13, 14, 15, 16, 17, 18, 23, 24, 25], 26), ([0, 1, 2, 3, 4, 5, 6, 7, 8, 9, 10, 11, 12, 13, 14, 15, 16, 17, 18, 23, 24, 25, 26], 27), ([0, 1, 2, 3, 4, 5, 6, 7, 8, 9, 10, 11, 12, 13, 14, 15, 16, 17, 18, 19, 20, 21, 22, 23, 24, 25, 26, 27], 28), ([0, 1, 2, 3, 4, 5, 6, 7, 8, 9, 10, 11, 12, 13, 14, 15, 16, 17, 18, 19, 20, 21, 22, 23, 24, 25, 26, 27, 28], 29), ([0, 1, 2, 3, 4, 5, 6, 7, 8, 9, 10, 11, 12, 13, 14, 15, 16, 17, 18, 19, 20, 21, 22, 23, 24, 25, 26, 27, 28, 29], 30), ([0, 1, 2, 3, 4, 5, 6, 7, 8, 9, 10, 11, 12, 13, 14, 15, 16, 17, 18, 19, 20, 21, 22, 23, 24, 25, 26, 27, 28, 29, 30], 31)] 28 (by decide +kernel) ?_; simp [hll,h9,Fr.keep]) | (refine T_draw tOK tmix [([], 3), ([0], 4), ([0, 1], 0), ([0, 1], 5), ([0, 1], 6), ([0, 1, 3, 4], 7), ([0, 1, 2, 3, 4, 5], 1), ([0, 1], 8), ([0, 1], 9), ([0, 1, 8], 10), ([0, 1, 7, 8, 9], 11), ([0, 1, 2, 3, 4, 5, 6, 7, 8, 9, 10], 2), ([0, 1, 2, 3, 4, 5, 6, 7, 8, 9, 10, 11], 12), ([0, 1], 13), ([0, 1, 13], 14), ([0, 1, 13, 14], 15), ([0, 1, 2, 3, 4, 5, 6, 7, 8, 9, 10, 11, 12, 13, 14, 15], 16), ([0, 1, 2, 3, 4, 5, 6, 7, 8, 9, 10, 11, 12, 13, 14, 15, 16], 17), ([0, 1, 2, 3, 4, 5, 6, 7, 8, 9, 10, 11, 12, 13, 14, 15, 16, 17], 18)] 16 (by decide +kernel) ?_; simp [hll,h9,Fr.keep]))
    refine T_seqkk [0, 1, 5, 6] [(0, .lit (is l)), (1, .int .u8 at0.toNat), (5, .bool true), (6, .bool (wk l 0))] [] (fun K hK => ?_) ?_
    · rw [wk_zero] at hK
      cases h1 : decide (1 ≤ l.length) with
      | false =>
        rw [h1] at h1d hK; rw [Bool.false_and] at hK
        repeat (first | (refine T_seqk fun K hK => ?_) | (refine T_reg tOK rfl ?_; simp [hll,h1d,Fr.keep]) | (refine T_ret ?_; try simp) | (refine T_skip ?_; try simp) | (refine T_blockk fun K hK => ?_) | (with_reducible apply_assumption -exfalso -symm) | (rw [afterRF_ret]; simp [hll,h1d,Fr.keep]) | (refine T_exit ?_; try simp) | (refine T_cond_t ?_ ?_; · (simp; done)) | (refine T_cond_f ?_ ?_; · (simp; done)) | (rintro _ _ (_ | _) hz9 <;> first | (simp; done) | (simp at hz9; done)) | (refine And.intro ?_ ?_) | (simp only [Post.block_ret, Post.block_exit, Post.block_normal, Post.block_pan, Post.seq_ret, Post.seq_exit, Post.seq_normal, Post.seq_pan]; try simp [hll,h1d,Fr.keep]) | (refine T_draw tOK tmix [([], 0), ([0], 1), ([0, 1], 2), ([0, 1], 3), ([0, 1, 2, 3], 4), ([0, 1, 2, 3, 4], 5), ([0, 1, 2, 3, 4, 5], 6), ([0, 1, 2, 3, 4, 5, 6], 7), ([0, 1, 2, 3, 4, 5, 6, 7], 8), ([0, 1, 2, 3, 4, 5, 6, 7, 8], 9), ([0, 1, 2, 3, 4, 5, 6, 7, 8], 10), ([0, 1, 2, 3, 4, 5, 6, 7, 8, 9, 10], 11), ([0, 1, 2, 3, 4, 5, 6, 7, 8, 9, 10, 11], 12), ([0, 1, 2, 3, 4, 5, 6, 7, 8, 9, 10, 11, 12], 13), ([0, 1, 2, 3, 4, 5, 6, 7, 8, 9, 10, 11, 12, 13], 14), ([0, 1, 2, 3, 4, 5, 6, 7, 8, 9, 10, 11, 12, 13, 14], 15), ([0, 1, 2, 3, 4, 5, 6, 7, 8, 9, 10, 11, 12, 13, 14, 15], 16), ([0, 1, 2, 3, 4, 5, 6, 7, 8, 9, 10, 11, 12, 13, 14, 15, 16], 17), ([0, 1, 2, 3, 4, 5, 6, 7, 8, 9, 10, 11, 12, 13, 14, 15, 16, 17], 18), ([0, 1, 2, 3, 4, 5, 6, 7, 8, 9, 10, 11, 12, 13, 14, 15, 16, 17, 18], 19), ([0, 1, 2, 3, 4, 5, 6, 7, 8, 9, 10, 11, 12, 13, 14, 15, 16, 17, 18], 20), ([0, 1, 2, 3, 4, 5, 6, 7, 8, 9, 10, 11, 12, 13, 14, 15, 16, 17, 18, 19, 20], 21), ([0, 1, 2, 3, 4, 5, 6, 7, 8, 9, 10, 11, 12, 13, 14, 15, 16, 17, 18, 19, 20, 21], 22), ([0, 1, 2, 3, 4, 5, 6, 7, 8, 9, 10, 11, 12, 13, 14, 15, 16, 17, 18], 23), ([0, 1, 2, 3, 4, 5, 6, 7, 8, 9, 10, 11, 12, 13, 14, 15, 16, 17, 18], 24), ([0, 1, 2, 3, 4, 5, 6, 7, 8, 9, 10, 11, 12, 13, 14, 15, 16, 17, 18, 24], 25), ([0, 1, 2, 3, 4, 5, 6, 7, 8, 9, 10, 11, 12, 13, 14, 15, 16, 17, 18, 23, 24, 25], 26), ([0, 1, 2, 3, 4, 5, 6, 7, 8, 9, 10, 11, 12, 13, 14, 15, 16, 17, 18, 23, 24, 25, 26], 27), ([0, 1, 2, 3, 4, 5, 6, 7, 8, 9, 10, 11, 12, 13, 14, 15, 16, 17, 18, 19, 20, 21, 22, 23, 24, 25, 26, 27], 28), ([0, 1, 2, 3, 4, 5, 6, 7, 8, 9, 10, 11, 12, 13, 14, 15, 16, 17, 18, 19, 20, 21, 22, 23, 24, 25, 26, 27, 28], 29), ([0, 1, 2, 3, 4, 5, 6, 7, 8, 9, 10, 11, 12, 13, 14, 15, 16, 17, 18, 19, 20, 21, 22, 23, 24, 25, 26, 27, 28, 29], 30), ([0, 1, 2, 3, 4, 5, 6, 7, 8, 9, 10, 11, 12, 13, 14, 15, 16, 17, 18, 19, 20, 21, 22, 23, 24, 25, 26, 27, 28, 29, 30], 31)] 28 (by decide +kernel) ?_; simp [hll,h1d,Fr.keep]) | (refine T_draw tOK tmix [([], 3), ([0], 4), ([0, 1], 0), ([0, 1], 5), ([0, 1], 6), ([0, 1, 3, 4], 7), ([0, 1, 2, 3, 4, 5], 1), ([0, 1], 8), ([0, 1], 9), ([0, 1, 8], 10), ([0, 1, 7, 8, 9], 11), ([0, 1, 2, 3, 4, 5, 6, 7, 8, 9, 10], 2), ([0, 1, 2, 3, 4, 5, 6, 7, 8, 9, 10, 11], 12), ([0, 1], 13), ([0, 1, 13], 14), ([0, 1, 13, 14], 15), ([0, 1, 2, 3, 4, 5, 6, 7, 8, 9, 10, 11, 12, 13, 14, 15], 16), ([0, 1, 2, 3, 4, 5, 6, 7, 8, 9, 10, 11, 12, 13, 14, 15, 16], 17), ([0, 1, 2, 3, 4, 5, 6, 7, 8, 9, 10, 11, 12, 13, 14, 15, 16, 17], 18)] 16 (by decide +kernel) ?_; simp [hll,h1d,Fr.keep]))
      | true =>
        rw [h1] at h1d hK; rw [Bool.true_and] at hK
        cases h2 : decide (l.length ≤ 40) with
        | false =>
          rw [h2] at h40 hK
          repeat (first | (refine T_seqk fun K hK => ?_) | (refine T_reg tOK rfl ?_; simp [hll,h1d,h40,Fr.keep]) | (refine T_ret ?_; try simp) | (refine T_skip ?_; try simp) | (refine T_blockk fun K hK => ?_) | (with_reducible apply_assumption -exfalso -symm) | (rw [afterRF_ret]; simp [hll,h1d,h40,Fr.keep]) | (refine T_exit ?_; try simp) | (refine T_cond_t ?_ ?_; · (simp; done)) | (refine T_cond_f ?_ ?_; · (simp; done)) | (rintro _ _ (_ | _) hz9 <;> first | (simp; done) | (simp at hz9; done)) | (refine And.intro ?_ ?_) | (simp only [Post.block_ret, Post.block_exit, Post.block_normal, Post.block_pan, Post.seq_ret, Post.seq_exit, Post.seq_normal, Post.seq_pan]; try simp [hll,h1d,h40,Fr.keep]) | (refine T_draw tOK tmix [([], 0), ([0], 1), ([0, 1], 2), ([0, 1], 3), ([0, 1, 2, 3], 4), ([0, 1, 2, 3, 4], 5), ([0, 1, 2, 3, 4, 5], 6), ([0, 1, 2, 3, 4, 5, 6], 7), ([0, 1, 2, 3, 4, 5, 6, 7], 8), ([0, 1, 2, 3, 4, 5, 6, 7, 8], 9), ([0, 1, 2, 3, 4, 5, 6, 7, 8], 10), ([0, 1, 2, 3, 4, 5, 6, 7, 8, 9, 10], 11), ([0, 1, 2, 3, 4, 5, 6, 7, 8, 9, 10, 11], 12), ([0, 1, 2, 3, 4, 5, 6, 7, 8, 9, 10, 11, 12], 13), ([0, 1, 2, 3, 4, 5, 6, 7, 8, 9, 10, 11, 12, 13], 14), ([0, 1, 2, 3, 4, 5, 6, 7, 8, 9, 10, 11, 12, 13, 14], 15), ([0, 1, 2, 3, 4, 5, 6, 7, 8, 9, 10, 11, 12, 13, 14, 15], 16), ([0, 1, 2, 3, 4, 5, 6, 7, 8, 9, 10, 11, 12, 13, 14, 15, 16], 17), ([0, 1, 2, 3, 4, 5, 6, 7, 8, 9, 10, 11, 12, 13, 14, 15, 16, 17], 18), ([0, 1, 2, 3, 4, 5, 6, 7, 8, 9, 10, 11, 12, 13, 14, 15, 16, 17, 18], 19), ([0, 1, 2, 3, 4, 5, 6, 7, 8, 9, 10, 11, 12, 13, 14, 15, 16, 17, 18], 20), ([0, 1, 2, 3, 4, 5, 6, 7, 8, 9, 10, 11, 12, 13, 14, 15, 16, 17, 18, 19, 20], 21), ([0, 1, 2, 3, 4, 5, 6, 7, 8, 9, 10, 11, 12, 13, 14, 15, 16, 17, 18, 19, 20, 21], 22), ([0, 1, 2, 3, 4, 5, 6, 7, 8, 9, 10, 11, 12, 13, 14, 15, 16, 17, 18], 23), ([0, 1, 2, 3, 4, 5, 6, 7, 8, 9, 10, 11, 12, 13, 14, 15, 16, 17, 18], 24), ([0, 1, 2, 3, 4, 5, 6, 7, 8, 9, 10, 11, 12, 13, 14, 15, 16, 17, 18, 24], 25), ([0, 1, 2, 3, 4, 5, 6, 7, 8, 9, 10, 11, 12, 13, 14, 15, 16, 17, 18, 23, 24, 25], 26), ([0, 1, 2, 3, 4, 5, 6, 7, 8, 9, 10, 11, 12, 13, 14, 15, 16, 17, 18, 23, 24, 25, 26], 27), ([0, 1, 2, 3, 4, 5, 6, 7, 8, 9, 10, 11, 12, 13, 14, 15, 16, 17, 18, 19, 20, 21, 22, 23, 24, 25, 26, 27], 28), ([0, 1, 2, 3, 4, 5, 6, 7, 8, 9, 10, 11, 12, 13, 14, 15, 16, 17, 18, 19, 20, 21, 22, 23, 24, 25, 26, 27, 28], 29), ([0, 1, 2, 3, 4, 5, 6, 7, 8, 9, 10, 11, 12, 13, 14, 15, 16, 17, 18, 19, 20, 21, 22, 23, 24, 25, 26, 27, 28, 29], 30), ([0, 1, 2, 3, 4, 5, 6, 7, 8, 9, 10, 11, 12, 13, 14, 15, 16, 17, 18, 19, 20, 21, 22, 23, 24, 25, 26, 27, 28, 29, 30], 31)] 28 (by decide +kernel) ?_; simp [hll,h1d,h40,Fr.keep]) | (refine T_draw tOK tmix [([], 3), ([0], 4), ([0, 1], 0), ([0, 1], 5), ([0, 1], 6), ([0, 1, 3, 4], 7), ([0, 1, 2, 3, 4, 5], 1), ([0, 1], 8), ([0, 1], 9), ([0, 1, 8], 10), ([0, 1, 7, 8, 9], 11), ([0, 1, 2, 3, 4, 5, 6, 7, 8, 9, 10], 2), ([0, 1, 2, 3, 4, 5, 6, 7, 8, 9, 10, 11], 12), ([0, 1], 13), ([0, 1, 13], 14), ([0, 1, 13, 14], 15), ([0, 1, 2, 3, 4, 5, 6, 7, 8, 9, 10, 11, 12, 13, 14, 15], 16), ([0, 1, 2, 3, 4, 5, 6, 7, 8, 9, 10, 11, 12, 13, 14, 15, 16], 17), ([0, 1, 2, 3, 4, 5, 6, 7, 8, 9, 10, 11, 12, 13, 14, 15, 16, 17], 18)] 16 (by decide +kernel) ?_; simp [hll,h1d,h40,Fr.keep]))
        | true =>
          rw [h2] at h40 hK
          repeat (first | (refine T_seqk fun K hK => ?_) | (refine T_reg tOK rfl ?_; simp [hll,h1d,h40,Fr.keep]) | (refine T_ret ?_; try simp) | (refine T_skip ?_; try simp) | (refine T_blockk fun K hK => ?_) | (with_reducible apply_assumption -exfalso -symm) | (rw [afterRF_ret]; simp [hll,h1d,h40,Fr.keep]) | (refine T_exit ?_; try simp) | (refine T_cond_t ?_ ?_; · (simp; done)) | (refine T_cond_f ?_ ?_; · (simp; done)) | (rintro _ _ (_ | _) hz9 <;> first | (simp; done) | (simp at hz9; done)) | (refine And.intro ?_ ?_) | (simp only [Post.block_ret, Post.block_exit, Post.block_normal, Post.block_pan, Post.seq_ret, Post.seq_exit, Post.seq_normal, Post.seq_pan]; try simp [hll,h1d,h40,Fr.keep]) | (refine T_draw tOK tmix [([], 0), ([0], 1), ([0, 1], 2), ([0, 1], 3), ([0, 1, 2, 3], 4), ([0, 1, 2, 3, 4], 5), ([0, 1, 2, 3, 4, 5], 6), ([0, 1, 2, 3, 4, 5, 6], 7), ([0, 1, 2, 3, 4, 5, 6, 7], 8), ([0, 1, 2, 3, 4, 5, 6, 7, 8], 9), ([0, 1, 2, 3, 4, 5, 6, 7, 8], 10), ([0, 1, 2, 3, 4, 5, 6, 7, 8, 9, 10], 11), ([0, 1, 2, 3, 4, 5, 6, 7, 8, 9, 10, 11], 12), ([0, 1, 2, 3, 4, 5, 6, 7, 8, 9, 10, 11, 12], 13), ([0, 1, 2, 3, 4, 5, 6, 7, 8, 9, 10, 11, 12, 13], 14), ([0, 1, 2, 3, 4, 5, 6, 7, 8, 9, 10, 11, 12, 13, 14], 15), ([0, 1, 2, 3, 4, 5, 6, 7, 8, 9, 10, 11, 12, 13, 14, 15], 16), ([0, 1, 2, 3, 4, 5, 6, 7, 8, 9, 10, 11, 12, 13, 14, 15, 16], 17), ([0, 1, 2, 3, 4, 5, 6, 7, 8, 9, 10, 11, 12, 13, 14, 15, 16, 17], 18), ([0, 1, 2, 3, 4, 5, 6, 7, 8, 9, 10, 11, 12, 13, 14, 15, 16, 17, 18], 19), ([0, 1, 2, 3, 4, 5, 6, 7, 8, 9, 10, 11, 12, 13, 14, 15, 16, 17, 18], 20), ([0, 1, 2, 3, 4, 5, 6, 7, 8, 9, 10, 11, 12, 13, 14, 15, 16, 17, 18, 19, 20], 21), ([0, 1, 2, 3, 4, 5, 6, 7, 8, 9, 10, 11, 12, 13, 14, 15, 16, 17, 18, 19, 20, 21], 22), ([0, 1, 2, 3, 4, 5, 6, 7, 8, 9, 10, 11, 12, 13, 14, 15, 16, 17, 18], 23), ([0, 1, 2, 3, 4, 5, 6, 7, 8, 9, 10, 11, 12, 13, 14, 15, 16, 17, 18], 24), ([0, 1, 2, 3, 4, 5, 6, 7, 8, 9, 10, 11, 12, 13, 14, 15, 16, 17, 18, 24], 25), ([0, 1, 2, 3, 4, 5, 6, 7, 8, 9, 10, 11, 12, 13, 14, 15, 16, 17, 18, 23, 24, 25], 26), ([0, 1, 2, 3, 4, 5, 6, 7, 8, 9, 10, 11, 12, 13, 14, 15, 16, 17, 18, 23, 24, 25, 26], 27), ([0, 1, 2, 3, 4, 5, 6, 7, 8, 9, 10, 11, 12, 13, 14, 15, 16, 17, 18, 19, 20, 21, 22, 23, 24, 25, 26, 27], 28), ([0, 1, 2, 3, 4, 5, 6, 7, 8, 9, 10, 11, 12, 13, 14, 15, 16, 17, 18, 19, 20, 21, 22, 23, 24, 25, 26, 27, 28], 29), ([0, 1, 2, 3, 4, 5, 6, 7, 8, 9, 10, 11, 12, 13, 14, 15, 16, 17, 18, 19, 20, 21, 22, 23, 24, 25, 26, 27, 28, 29], 30), ([0, 1, 2, 3, 4, 5, 6, 7, 8, 9, 10, 11, 12, 13, 14, 15, 16, 17, 18, 19, 20, 21, 22, 23, 24, 25, 26, 27, 28, 29, 30], 31)] 28 (by decide +kernel) ?_; simp [hll,h1d,h40,Fr.keep]) | (refine T_draw tOK tmix [([], 3), ([0], 4), ([0, 1], 0), ([0, 1], 5), ([0, 1], 6), ([0, 1, 3, 4], 7), ([0, 1, 2, 3, 4, 5], 1), ([0, 1], 8), ([0, 1], 9), ([0, 1, 8], 10), ([0, 1, 7, 8, 9], 11), ([0, 1, 2, 3, 4, 5, 6, 7, 8, 9, 10], 2), ([0, 1, 2, 3, 4, 5, 6, 7, 8, 9, 10, 11], 12), ([0, 1], 13), ([0, 1, 13], 14), ([0, 1, 13, 14], 15), ([0, 1, 2, 3, 4, 5, 6, 7, 8, 9, 10, 11, 12, 13, 14, 15], 16), ([0, 1, 2, 3, 4, 5, 6, 7, 8, 9, 10, 11, 12, 13, 14, 15, 16], 17), ([0, 1, 2, 3, 4, 5, 6, 7, 8, 9, 10, 11, 12, 13, 14, 15, 16, 17], 18)] 16 (by decide +kernel) ?_; simp [hll,h1d,h40,Fr.keep]))
    refine T_seqkk [0, 1, 5, 6] [(0, .lit (is l)), (1, .int .u8 at0.toNat), (5, .bool true), (6, .bool (wk l l.length))] [] (fun K hK => ?_) ?_
    · repeat (first | (refine T_seqk fun K hK => ?_) | (refine T_reg tOK rfl ?_; simp) | (refine T_ret ?_; try simp) | (refine T_skip ?_; try simp) | (refine T_blockk fun K hK => ?_) | (with_reducible apply_assumption -exfalso -symm) | (rw [afterRF_ret]; simp) | (refine T_exit ?_; try simp) | (refine T_cond_t ?_ ?_; · (simp; done)) | (refine T_cond_f ?_ ?_; · (simp; done)) | (rintro _ _ (_ | _) hz9 <;> first | (simp; done) | (simp at hz9; done)) | (refine And.intro ?_ ?_) | (simp only [Post.block_ret, Post.block_exit, Post.block_normal, Post.block_pan, Post.seq_ret, Post.seq_exit, Post.seq_normal, Post.seq_pan]; try simp) | (refine T_draw tOK tmix [([], 0), ([0], 1), ([0, 1], 2), ([0, 1], 3), ([0, 1, 2, 3], 4), ([0, 1, 2, 3, 4], 5), ([0, 1, 2, 3, 4, 5], 6), ([0, 1, 2, 3, 4, 5, 6], 7), ([0, 1, 2, 3, 4, 5, 6, 7], 8), ([0, 1, 2, 3, 4, 5, 6, 7, 8], 9), ([0, 1, 2, 3, 4, 5, 6, 7, 8], 10), ([0, 1, 2, 3, 4, 5, 6, 7, 8, 9, 10], 11), ([0, 1, 2, 3, 4, 5, 6, 7, 8, 9, 10, 11], 12), ([0, 1, 2, 3, 4, 5, 6, 7, 8, 9, 10, 11, 12], 13), ([0, 1, 2, 3, 4, 5, 6, 7, 8, 9, 10, 11, 12, 13], 14), ([0, 1, 2, 3, 4, 5, 6, 7, 8, 9, 10, 11, 12, 13, 14], 15), ([0, 1, 2, 3, 4, 5, 6, 7, 8, 9, 10, 11, 12, 13, 14, 15], 16), ([0, 1, 2, 3, 4, 5, 6, 7, 8, 9, 10, 11, 12, 13, 14, 15, 16], 17), ([0, 1, 2, 3, 4, 5, 6, 7, 8, 9, 10, 11, 12, 13, 14, 15, 16, 17], 18), ([0, 1, 2, 3, 4, 5, 6, 7, 8, 9, 10, 11, 12, 13, 14, 15, 16, 17, 18], 19), ([0, 1, 2, 3, 4, 5, 6, 7, 8, 9, 10, 11, 12, 13, 14, 15, 16, 17, 18], 20), ([0, 1, 2, 3, 4, 5, 6, 7, 8, 9, 10, 11, 12, 13, 14, 15, 16, 17, 18, 19, 20], 21), ([0, 1, 2, 3, 4, 5, 6, 7, 8, 9, 10, 11, 12, 13, 14, 15, 16, 17, 18, 19, 20, 21], 22), ([0, 1, 2, 3, 4, 5, 6, 7, 8, 9, 10, 11, 12, 13, 14, 15, 16, 17, 18], 23), ([0, 1, 2, 3, 4, 5, 6, 7, 8, 9, 10, 11, 12, 13, 14, 15, 16, 17, 18], 24), ([0, 1, 2, 3, 4, 5, 6, 7, 8, 9, 10, 11, 12, 13, 14, 15, 16, 17, 18, 24], 25), ([0, 1, 2, 3, 4, 5, 6, 7, 8, 9, 10, 11, 12, 13, 14, 15, 16, 17, 18, 23, 24, 25], 26), ([0, 1, 2, 3, 4, 5, 6, 7, 8, 9, 10, 11, 12, 13, 14, 15, 16, 17, 18, 23, 24, 25, 26], 27), ([0, 1, 2, 3, 4, 5, 6, 7, 8, 9, 10, 11, 12, 13, 14, 15, 16, 17, 18, 19, 20, 21, 22, 23, 24, 25, 26, 27], 28), ([0, 1, 2, 3, 4, 5, 6, 7, 8, 9, 10, 11, 12, 13, 14, 15, 16, 17, 18, 19, 20, 21, 22, 23, 24, 25, 26, 27, 28], 29), ([0, 1, 2, 3, 4, 5, 6, 7, 8, 9, 10, 11, 12, 13, 14, 15, 16, 17, 18, 19, 20, 21, 22, 23, 24, 25, 26, 27, 28, 29], 30), ([0, 1, 2, 3, 4, 5, 6, 7, 8, 9, 10, 11, 12, 13, 14, 15, 16, 17, 18, 19, 20, 21, 22, 23, 24, 25, 26, 27, 28, 29, 30], 31)] 28 (by decide +kernel) ?_; simp) | (refine T_draw tOK tmix [([], 3), ([0], 4), ([0, 1], 0), ([0, 1], 5), ([0, 1], 6), ([0, 1, 3, 4], 7), ([0, 1, 2, 3, 4, 5], 1), ([0, 1], 8), ([0, 1], 9), ([0, 1, 8], 10), ([0, 1, 7, 8, 9], 11), ([0, 1, 2, 3, 4, 5, 6, 7, 8, 9, 10], 2), ([0, 1, 2, 3, 4, 5, 6, 7, 8, 9, 10, 11], 12), ([0, 1], 13), ([0, 1, 13], 14), ([0, 1, 13, 14], 15), ([0, 1, 2, 3, 4, 5, 6, 7, 8, 9, 10, 11, 12, 13, 14, 15], 16), ([0, 1, 2, 3, 4, 5, 6, 7, 8, 9, 10, 11, 12, 13, 14, 15, 16], 17), ([0, 1, 2, 3, 4, 5, 6, 7, 8, 9, 10, 11, 12, 13, 14, 15, 16, 17], 18)] 16 (by decide +kernel) ?_; simp))
      refine T_loop ?_
      refine TL_keep [0, 1, 5, 6, 7] ?_
      simp [Fr.keep]
      refine TL_ix (fun k => [(0, .lit (is l)), (1, .int .u8 at0.toNat), (5, .bool true), (6, .bool (wk l k)), (7, i64 k)]) (fun _ => []) l.length (fun _ => True) trivial ?_ ?_
      · intro _
        refine TL_round ?_
        repeat (first | (refine T_seqk fun K hK => ?_) | (refine T_reg tOK rfl ?_; simp [hll,Fr.keep]) | (refine T_ret ?_; try simp) | (refine T_skip ?_; try simp) | (refine T_blockk fun K hK => ?_) | (with_reducible apply_assumption -exfalso -symm) | (rw [afterRF_ret]; simp [hll,Fr.keep]) | (refine T_exit ?_; try simp) | (refine T_cond_t ?_ ?_; · (simp; done)) | (refine T_cond_f ?_ ?_; · (simp; done)) | (rintro _ _ (_ | _) hz9 <;> first | (simp; done) | (simp at hz9; done)) | (refine And.intro ?_ ?_) | (simp only [Post.block_ret, Post.block_exit, Post.block_normal, Post.block_pan, Post.seq_ret, Post.seq_exit, Post.seq_normal, Post.seq_pan]; try simp [hll,Fr.keep]) | (refine T_draw tOK tmix [([], 0), ([0], 1), ([0, 1], 2), ([0, 1], 3), ([0, 1, 2, 3], 4), ([0, 1, 2, 3, 4], 5), ([0, 1, 2, 3, 4, 5], 6), ([0, 1, 2, 3, 4, 5, 6], 7), ([0, 1, 2, 3, 4, 5, 6, 7], 8), ([0, 1, 2, 3, 4, 5, 6, 7, 8], 9), ([0, 1, 2, 3, 4, 5, 6, 7, 8], 10), ([0, 1, 2, 3, 4, 5, 6, 7, 8, 9, 10], 11), ([0, 1, 2, 3, 4, 5, 6, 7, 8, 9, 10, 11], 12), ([0, 1, 2, 3, 4, 5, 6, 7, 8, 9, 10, 11, 12], 13), ([0, 1, 2, 3, 4, 5, 6, 7, 8, 9, 10, 11, 12, 13], 14), ([0, 1, 2, 3, 4, 5, 6, 7, 8, 9, 10, 11, 12, 13, 14], 15), ([0, 1, 2, 3, 4, 5, 6, 7, 8, 9, 10, 11, 12, 13, 14, 15], 16), ([0, 1, 2, 3, 4, 5, 6, 7, 8, 9, 10, 11, 12, 13, 14, 15, 16], 17), ([0, 1, 2, 3, 4, 5, 6, 7, 8, 9, 10, 11, 12, 13, 14, 15, 16, 17], 18), ([0, 1, 2, 3, 4, 5, 6, 7, 8, 9, 10, 11, 12, 13, 14, 15, 16, 17, 18], 19), ([0, 1, 2, 3, 4, 5, 6, 7, 8, 9, 10, 11, 12, 13, 14, 15, 16, 17, 18], 20), ([0, 1, 2, 3, 4, 5, 6, 7, 8, 9, 10, 11, 12, 13, 14, 15, 16, 17, 18, 19, 20], 21), ([0, 1, 2, 3, 4, 5, 6, 7, 8, 9, 10, 11, 12, 13, 14, 15, 16, 17, 18, 19, 20, 21], 22), ([0, 1, 2, 3, 4, 5, 6, 7, 8, 9, 10, 11, 12, 13, 14, 15, 16, 17, 18], 23), ([0, 1, 2, 3, 4, 5, 6, 7, 8, 9, 10, 11, 12, 13, 14, 15, 16, 17, 18], 24), ([0, 1, 2, 3, 4, 5, 6, 7, 8, 9, 10, 11, 12, 13, 14, 15, 16, 17, 18, 24], 25), ([0, 1, 2, 3, 4, 5, 6, 7, 8, 9, 10, 11, 12, 13, 14, 15, 16, 17, 18, 23, 24, 25], 26), ([0, 1, 2, 3, 4, 5, 6, 7, 8, 9, 10, 11, 12, 13, 14, 15, 16, 17, 18, 23, 24, 25, 26], 27), ([0, 1, 2, 3, 4, 5, 6, 7, 8, 9, 10, 11, 12, 13, 14, 15, 16, 17, 18, 19, 20, 21, 22, 23, 24, 25, 26, 27], 28), ([0, 1, 2, 3, 4, 5, 6, 7, 8, 9, 10, 11, 12, 13, 14, 15, 16, 17, 18, 19, 20, 21, 22, 23, 24, 25, 26, 27, 28], 29), ([0, 1, 2, 3, 4, 5, 6, 7, 8, 9, 10, 11, 12, 13, 14, 15, 16, 17, 18, 19, 20, 21, 22, 23, 24, 25, 26, 27, 28, 29], 30), ([0, 1, 2, 3, 4, 5, 6, 7, 8, 9, 10, 11, 12, 13, 14, 15, 16, 17, 18, 19, 20, 21, 22, 23, 24, 25, 26, 27, 28, 29, 30], 31)] 28 (by decide +kernel) ?_; simp [hll,Fr.keep]) | (refine T_draw tOK tmix [([], 3), ([0], 4), ([0, 1], 0), ([0, 1], 5), ([0, 1], 6), ([0, 1, 3, 4], 7), ([0, 1, 2, 3, 4, 5], 1), ([0, 1], 8), ([0, 1], 9), ([0, 1, 8], 10), ([0, 1, 7, 8, 9], 11), ([0, 1, 2, 3, 4, 5, 6, 7, 8, 9, 10], 2), ([0, 1, 2, 3, 4, 5, 6, 7, 8, 9, 10, 11], 12), ([0, 1], 13), ([0, 1, 13], 14), ([0, 1, 13, 14], 15), ([0, 1, 2, 3, 4, 5, 6, 7, 8, 9, 10, 11, 12, 13, 14, 15], 16), ([0, 1, 2, 3, 4, 5, 6, 7, 8, 9, 10, 11, 12, 13, 14, 15, 16], 17), ([0, 1, 2, 3, 4, 5, 6, 7, 8, 9, 10, 11, 12, 13, 14, 15, 16, 17], 18)] 16 (by decide +kernel) ?_; simp [hll,Fr.keep]))
      · intro k hk _ ih
        replace ih := PLift.up (ih trivial)
        have hkb : decide (k < l.length) = true := by simpa using hk
        have hwk : IntKind.i64.wrap ((k : Int) + 1) = ((k + 1 : Nat) : Int) := by rw [IntWalk.i64_in _ (by omega)]; omega
        refine TL_round ?_
        refine T_seqkk [0, 1, 5, 6, 7] [(0, .lit (is l)), (1, .int .u8 at0.toNat), (5, .bool true), (6, .bool (wk l k)), (7, i64 k)] [] (fun K hK => ?_) ?_
        · repeat (first | (refine T_seqk fun K hK => ?_) | (refine T_reg tOK rfl ?_; simp [hll,hkb,Fr.keep]) | (refine T_ret ?_; try simp) | (refine T_skip ?_; try simp) | (refine T_blockk fun K hK => ?_) | (with_reducible apply_assumption -exfalso -symm) | (rw [afterRF_ret]; simp [hll,hkb,Fr.keep]) | (refine T_exit ?_; try simp) | (refine T_cond_t ?_ ?_; · (simp; done)) | (refine T_cond_f ?_ ?_; · (simp; done)) | (rintro _ _ (_ | _) hz9 <;> first | (simp; done) | (simp at hz9; done)) | (refine And.intro ?_ ?_) | (simp only [Post.block_ret, Post.block_exit, Post.block_normal, Post.block_pan, Post.seq_ret, Post.seq_exit, Post.seq_normal, Post.seq_pan]; try simp [hll,hkb,Fr.keep]) | (refine T_draw tOK tmix [([], 0), ([0], 1), ([0, 1], 2), ([0, 1], 3), ([0, 1, 2, 3], 4), ([0, 1, 2, 3, 4], 5), ([0, 1, 2, 3, 4, 5], 6), ([0, 1, 2, 3, 4, 5, 6], 7), ([0, 1, 2, 3, 4, 5, 6, 7], 8), ([0, 1, 2, 3, 4, 5, 6, 7, 8], 9), ([0, 1, 2, 3, 4, 5, 6, 7, 8], 10), ([0, 1, 2, 3, 4, 5, 6, 7, 8, 9, 10], 11), ([0, 1, 2, 3, 4, 5, 6, 7, 8, 9, 10, 11], 12), ([0, 1, 2, 3, 4, 5, 6, 7, 8, 9, 10, 11, 12], 13), ([0, 1, 2, 3, 4, 5, 6, 7, 8, 9, 10, 11, 12, 13], 14), ([0, 1, 2, 3, 4, 5, 6, 7, 8, 9, 10, 11, 12, 13, 14], 15), ([0, 1, 2, 3, 4, 5, 6, 7, 8, 9, 10, 11, 12, 13, 14, 15], 16), ([0, 1, 2, 3, 4, 5, 6, 7, 8, 9, 10, 11, 12, 13, 14, 15, 16], 17), ([0, 1, 2, 3, 4, 5, 6, 7, 8, 9, 10, 11, 12, 13, 14, 15, 16, 17], 18), ([0, 1, 2, 3, 4, 5, 6, 7, 8, 9, 10, 11, 12, 13, 14, 15, 16, 17, 18], 19), ([0, 1, 2, 3, 4, 5, 6, 7, 8, 9, 10, 11, 12, 13, 14, 15, 16, 17, 18], 20), ([0, 1, 2, 3, 4, 5, 6, 7, 8, 9, 10, 11, 12, 13, 14, 15, 16, 17, 18, 19, 20], 21), ([0, 1, 2, 3, 4, 5, 6, 7, 8, 9, 10, 11, 12, 13, 14, 15, 16, 17, 18, 19, 20, 21], 22), ([0, 1, 2, 3, 4, 5, 6, 7, 8, 9, 10, 11, 12, 13, 14, 15, 16, 17, 18], 23), ([0, 1, 2, 3, 4, 5, 6, 7, 8, 9, 10, 11, 12, 13, 14, 15, 16, 17, 18], 24), ([0, 1, 2, 3, 4, 5, 6, 7, 8, 9, 10, 11, 12, 13, 14, 15, 16, 17, 18, 24], 25), ([0, 1, 2, 3, 4, 5, 6, 7, 8, 9, 10, 11, 12, 13, 14, 15, 16, 17, 18, 23, 24, 25], 26), ([0, 1, 2, 3, 4, 5, 6, 7, 8, 9, 10, 11, 12, 13, 14, 15, 16, 17, 18, 23, 24, 25, 26], 27), ([0, 1, 2, 3, 4, 5, 6, 7, 8, 9, 10, 11, 12, 13, 14, 15, 16, 17, 18, 19, 20, 21, 22, 23, 24, 25, 26, 27], 28), ([0, 1, 2, 3, 4, 5, 6, 7, 8, 9, 10, 11, 12, 13, 14, 15, 16, 17, 18, 19, 20, 21, 22, 23, 24, 25, 26, 27, 28], 29), ([0, 1, 2, 3, 4, 5, 6, 7, 8, 9, 10, 11, 12, 13, 14, 15, 16, 17, 18, 19, 20, 21, 22, 23, 24, 25, 26, 27, 28, 29], 30), ([0, 1, 2, 3, 4, 5, 6, 7, 8, 9, 10, 11, 12, 13, 14, 15, 16, 17, 18, 19, 20, 21, 22, 23, 24, 25, 26, 27, 28, 29, 30], 31)] 28 (by decide +kernel) ?_; simp [hll,hkb,Fr.keep]) | (refine T_draw tOK tmix [([], 3), ([0], 4), ([0, 1], 0), ([0, 1], 5), ([0, 1], 6), ([0, 1, 3, 4], 7), ([0, 1, 2, 3, 4, 5], 1), ([0, 1], 8), ([0, 1], 9), ([0, 1, 8], 10), ([0, 1, 7, 8, 9], 11), ([0, 1, 2, 3, 4, 5, 6, 7, 8, 9, 10], 2), ([0, 1, 2, 3, 4, 5, 6, 7, 8, 9, 10, 11], 12), ([0, 1], 13), ([0, 1, 13], 14), ([0, 1, 13, 14], 15), ([0, 1, 2, 3, 4, 5, 6, 7, 8, 9, 10, 11, 12, 13, 14, 15], 16), ([0, 1, 2, 3, 4, 5, 6, 7, 8, 9, 10, 11, 12, 13, 14, 15, 16], 17), ([0, 1, 2, 3, 4, 5, 6, 7, 8, 9, 10, 11, 12, 13, 14, 15, 16, 17], 18)] 16 (by decide +kernel) ?_; simp [hll,hkb,Fr.keep]))
        refine T_seqkf 0 [0, 1, 5, 6, 7] [(0, .lit (is l)), (1, .int .u8 at0.toNat), (5, .bool true), (6, .bool (wk l (k + 1))), (7, i64 k)] [] (by simp) (by simp [belowFr, belowB, belowL_of_pure 0 _ (pureL_is l)]) rfl (fun K hK => ?_) ?_
        · refine T_blockk fun Q' hQ' => ?_
          rw [wk_step hk] at hK
          have ek := is_get hk
          have lk : k < (is l).length := by omega
          have ek' := get_of ek lk
          refine T_draw tOK tmix [([], 0), ([0], 1), ([0, 1], 2), ([0, 1], 3), ([0, 1, 2, 3], 4), ([0, 1, 2, 3, 4], 5), ([0, 1, 2, 3, 4, 5], 6), ([0, 1, 2, 3, 4, 5, 6], 7), ([0, 1, 2, 3, 4, 5, 6, 7], 8), ([0, 1, 2, 3, 4, 5, 6, 7, 8], 9), ([0, 1, 2, 3, 4, 5, 6, 7, 8], 10), ([0, 1, 2, 3, 4, 5, 6, 7, 8, 9, 10], 11), ([0, 1, 2, 3, 4, 5, 6, 7, 8, 9, 10, 11], 12), ([0, 1, 2, 3, 4, 5, 6, 7, 8, 9, 10, 11, 12], 13), ([0, 1, 2, 3, 4, 5, 6, 7, 8, 9, 10, 11, 12, 13], 14), ([0, 1, 2, 3, 4, 5, 6, 7, 8, 9, 10, 11, 12, 13, 14], 15), ([0, 1, 2, 3, 4, 5, 6, 7, 8, 9, 10, 11, 12, 13, 14, 15], 16), ([0, 1, 2, 3, 4, 5, 6, 7, 8, 9, 10, 11, 12, 13, 14, 15, 16], 17), ([0, 1, 2, 3, 4, 5, 6, 7, 8, 9, 10, 11, 12, 13, 14, 15, 16, 17], 18), ([0, 1, 2, 3, 4, 5, 6, 7, 8, 9, 10, 11, 12, 13, 14, 15, 16, 17, 18], 19), ([0, 1, 2, 3, 4, 5, 6, 7, 8, 9, 10, 11, 12, 13, 14, 15, 16, 17, 18], 20), ([0, 1, 2, 3, 4, 5, 6, 7, 8, 9, 10, 11, 12, 13, 14, 15, 16, 17, 18, 19, 20], 21), ([0, 1, 2, 3, 4, 5, 6, 7, 8, 9, 10, 11, 12, 13, 14, 15, 16, 17, 18, 19, 20, 21], 22), ([0, 1, 2, 3, 4, 5, 6, 7, 8, 9, 10, 11, 12, 13, 14, 15, 16, 17, 18], 23), ([0, 1, 2, 3, 4, 5, 6, 7, 8, 9, 10, 11, 12, 13, 14, 15, 16, 17, 18], 24), ([0, 1, 2, 3, 4, 5, 6, 7, 8, 9, 10, 11, 12, 13, 14, 15, 16, 17, 18, 24], 25), ([0, 1, 2, 3, 4, 5, 6, 7, 8, 9, 10, 11, 12, 13, 14, 15, 16, 17, 18, 23, 24, 25], 26), ([0, 1, 2, 3, 4, 5, 6, 7, 8, 9, 10, 11, 12, 13, 14, 15, 16, 17, 18, 23, 24, 25, 26], 27), ([0, 1, 2, 3, 4, 5, 6, 7, 8, 9, 10, 11, 12, 13, 14, 15, 16, 17, 18, 19, 20, 21, 22, 23, 24, 25, 26, 27], 28), ([0, 1, 2, 3, 4, 5, 6, 7, 8, 9, 10, 11, 12, 13, 14, 15, 16, 17, 18, 19, 20, 21, 22, 23, 24, 25, 26, 27, 28], 29), ([0, 1, 2, 3, 4, 5, 6, 7, 8, 9, 10, 11, 12, 13, 14, 15, 16, 17, 18, 19, 20, 21, 22, 23, 24, 25, 26, 27, 28, 29], 30), ([0, 1, 2, 3, 4, 5, 6, 7, 8, 9, 10, 11, 12, 13, 14, 15, 16, 17, 18, 19, 20, 21, 22, 23, 24, 25, 26, 27, 28, 29, 30], 31)] 28 (by decide +kernel) ?_
          cases hw : wk l k with
          | false =>
            rw [hw, Bool.false_and] at hK
            simp [hw]
            exact hQ' _ _ _ (hK _ _ (by simp [Fr.keep]) (by simp))
          | true =>
            rw [hw, Bool.true_and] at hK
            cases h1 : decide (0 ≤ l[k]) with
            | false =>
              rw [h1, Bool.false_and] at hK
              simp [hw,ek,ek',lk,h1]
              exact hQ' _ _ _ (hK _ _ (by simp [Fr.keep]) (by simp))
            | true =>
              rw [h1, Bool.true_and] at hK
              cases h2 : decide (l[k] ≤ 1073741824) with
              | false =>
                rw [h2, Bool.false_and] at hK
                simp [hw,ek,ek',lk,h1,h2]
                exact hQ' _ _ _ (hK _ _ (by simp [Fr.keep]) (by simp))
              | true =>
                rw [h2, Bool.true_and] at hK
                cases k with
                | zero =>
                  rw [show ((0 : Nat) == 0) = true from rfl, Bool.true_or] at hK
                  simp [hw,ek,ek',lk,h1,h2]
                  exact hQ' _ _ _ (hK _ _ (by simp [Fr.keep]) (by simp))
                | succ k =>
                  have hk' : k < l.length := by omega
                  rw [show (k + 1 == 0) = false from rfl, Bool.false_or, show l[k + 1 - 1]! = l[k] by simp [hk']] at hK
                  have fk := is_get hk'
                  have mk : k < (is l).length := by omega
                  have fk' := get_of fk mk
                  have hwk' : IntKind.i64.wrap (k : Int) = (k : Int) := IntWalk.i64_in _ (by omega)
                  have p1 : (0 : Int) ≤ (k : Int) + 1 := by omega
                  have p2 : ((k : Int) + 1).toNat = k + 1 := by omega
                  have p3 : ((k : Int) + 1 == 0) = false := by simp; omega
                  cases h3 : decide (l[k] < l[k + 1]) with
                  | false =>
                    rw [h3] at hK
                    try simp [-RF_cons, -RD_cons, hw,ek,ek',lk,h1,h2,hwk',p1,p2,p3,fk,fk',mk,h3]
                    repeat (rw [RD_cons]; simp [-RF_cons, -RD_cons, hw,ek,ek',lk,h1,h2,hwk',p1,p2,p3,fk,fk',mk,h3])
                    repeat (rw [RF_cons]; simp [-RF_cons, -RD_cons, hw,ek,ek',lk,h1,h2,hwk',p1,p2,p3,fk,fk',mk,h3])
                    refine hQ' _ _ _ ?_
                    exact hK _ _ (by simp [Fr.keep]) (by simp)
                  | true =>
                    rw [h3] at hK
                    try simp [-RF_cons, -RD_cons, hw,ek,ek',lk,h1,h2,hwk',p1,p2,p3,fk,fk',mk,h3]
                    repeat (rw [RD_cons]; simp [-RF_cons, -RD_cons, hw,ek,ek',lk,h1,h2,hwk',p1,p2,p3,fk,fk',mk,h3])
                    repeat (rw [RF_cons]; simp [-RF_cons, -RD_cons, hw,ek,ek',lk,h1,h2,hwk',p1,p2,p3,fk,fk',mk,h3])
                    refine hQ' _ _ _ ?_
                    exact hK _ _ (by simp [Fr.keep]) (by simp)
        · refine T_reg tOK rfl ?_
          simp [hwk]
          refine TL_keep [0, 1, 5, 6, 7] ?_
          simp [Fr.keep]
          exact ih.down
    rw [wk_full]
    have hlb : l.length < 1000000000 := by omega
    refine T_seqk fun K hK => ?_
    repeat (first | (refine T_seqk fun K hK => ?_) | (refine T_reg tOK rfl ?_; simp) | (refine T_ret ?_; try simp) | (refine T_skip ?_; try simp) | (refine T_blockk fun K hK => ?_) | (with_reducible apply_assumption -exfalso -symm) | (rw [afterRF_ret]; simp) | (refine T_exit ?_; try simp) | (refine T_cond_t ?_ ?_; · (simp; done)) | (refine T_cond_f ?_ ?_; · (simp; done)) | (rintro _ _ (_ | _) hz9 <;> first | (simp; done) | (simp at hz9; done)) | (refine And.intro ?_ ?_) | (simp only [Post.block_ret, Post.block_exit, Post.block_normal, Post.block_pan, Post.seq_ret, Post.seq_exit, Post.seq_normal, Post.seq_pan]; try simp) | (refine T_draw tOK tmix [([], 0), ([0], 1), ([0, 1], 2), ([0, 1], 3), ([0, 1, 2, 3], 4), ([0, 1, 2, 3, 4], 5), ([0, 1, 2, 3, 4, 5], 6), ([0, 1, 2, 3, 4, 5, 6], 7), ([0, 1, 2, 3, 4, 5, 6, 7], 8), ([0, 1, 2, 3, 4, 5, 6, 7, 8], 9), ([0, 1, 2, 3, 4, 5, 6, 7, 8], 10), ([0, 1, 2, 3, 4, 5, 6, 7, 8, 9, 10], 11), ([0, 1, 2, 3, 4, 5, 6, 7, 8, 9, 10, 11], 12), ([0, 1, 2, 3, 4, 5, 6, 7, 8, 9, 10, 11, 12], 13), ([0, 1, 2, 3, 4, 5, 6, 7, 8, 9, 10, 11, 12, 13], 14), ([0, 1, 2, 3, 4, 5, 6, 7, 8, 9, 10, 11, 12, 13, 14], 15), ([0, 1, 2, 3, 4, 5, 6, 7, 8, 9, 10, 11, 12, 13, 14, 15], 16), ([0, 1, 2, 3, 4, 5, 6, 7, 8, 9, 10, 11, 12, 13, 14, 15, 16], 17), ([0, 1, 2, 3, 4, 5, 6, 7, 8, 9, 10, 11, 12, 13, 14, 15, 16, 17], 18), ([0, 1, 2, 3, 4, 5, 6, 7, 8, 9, 10, 11, 12, 13, 14, 15, 16, 17, 18], 19), ([0, 1, 2, 3, 4, 5, 6, 7, 8, 9, 10, 11, 12, 13, 14, 15, 16, 17, 18], 20), ([0, 1, 2, 3, 4, 5, 6, 7, 8, 9, 10, 11, 12, 13, 14, 15, 16, 17, 18, 19, 20], 21), ([0, 1, 2, 3, 4, 5, 6, 7, 8, 9, 10, 11, 12, 13, 14, 15, 16, 17, 18, 19, 20, 21], 22), ([0, 1, 2, 3, 4, 5, 6, 7, 8, 9, 10, 11, 12, 13, 14, 15, 16, 17, 18], 23), ([0, 1, 2, 3, 4, 5, 6, 7, 8, 9, 10, 11, 12, 13, 14, 15, 16, 17, 18], 24), ([0, 1, 2, 3, 4, 5, 6, 7, 8, 9, 10, 11, 12, 13, 14, 15, 16, 17, 18, 24], 25), ([0, 1, 2, 3, 4, 5, 6, 7, 8, 9, 10, 11, 12, 13, 14, 15, 16, 17, 18, 23, 24, 25], 26), ([0, 1, 2, 3, 4, 5, 6, 7, 8, 9, 10, 11, 12, 13, 14, 15, 16, 17, 18, 23, 24, 25, 26], 27), ([0, 1, 2, 3, 4, 5, 6, 7, 8, 9, 10, 11, 12, 13, 14, 15, 16, 17, 18, 19, 20, 21, 22, 23, 24, 25, 26, 27], 28), ([0, 1, 2, 3, 4, 5, 6, 7, 8, 9, 10, 11, 12, 13, 14, 15, 16, 17, 18, 19, 20, 21, 22, 23, 24, 25, 26, 27, 28], 29), ([0, 1, 2, 3, 4, 5, 6, 7, 8, 9, 10, 11, 12, 13, 14, 15, 16, 17, 18, 19, 20, 21, 22, 23, 24, 25, 26, 27, 28, 29], 30), ([0, 1, 2, 3, 4, 5, 6, 7, 8, 9, 10, 11, 12, 13, 14, 15, 16, 17, 18, 19, 20, 21, 22, 23, 24, 25, 26, 27, 28, 29, 30], 31)] 28 (by decide +kernel) ?_; simp) | (refine T_draw tOK tmix [([], 3), ([0], 4), ([0, 1], 0), ([0, 1], 5), ([0, 1], 6), ([0, 1, 3, 4], 7), ([0, 1, 2, 3, 4, 5], 1), ([0, 1], 8), ([0, 1], 9), ([0, 1, 8], 10), ([0, 1, 7, 8, 9], 11), ([0, 1, 2, 3, 4, 5, 6, 7, 8, 9, 10], 2), ([0, 1, 2, 3, 4, 5, 6, 7, 8, 9, 10, 11], 12), ([0, 1], 13), ([0, 1, 13], 14), ([0, 1, 13, 14], 15), ([0, 1, 2, 3, 4, 5, 6, 7, 8, 9, 10, 11, 12, 13, 14, 15], 16), ([0, 1, 2, 3, 4, 5, 6, 7, 8, 9, 10, 11, 12, 13, 14, 15, 16], 17), ([0, 1, 2, 3, 4, 5, 6, 7, 8, 9, 10, 11, 12, 13, 14, 15, 16, 17], 18)] 16 (by decide +kernel) ?_; simp))
    refine C_right hlb ?_
    cases hok : okL l with
    | false =>
      repeat (first | (rw [afterRF_ret]; simp ) | with_reducible apply_assumption -exfalso -symm)
      repeat (first | (refine T_seqk fun K hK => ?_) | (refine T_reg tOK rfl ?_; simp) | (refine T_ret ?_; try simp) | (refine T_skip ?_; try simp) | (refine T_blockk fun K hK => ?_) | (with_reducible apply_assumption -exfalso -symm) | (rw [afterRF_ret]; simp) | (refine T_exit ?_; try simp) | (refine T_cond_t ?_ ?_; · (simp; done)) | (refine T_cond_f ?_ ?_; · (simp; done)) | (rintro _ _ (_ | _) hz9 <;> first | (simp; done) | (simp at hz9; done)) | (refine And.intro ?_ ?_) | (simp only [Post.block_ret, Post.block_exit, Post.block_normal, Post.block_pan, Post.seq_ret, Post.seq_exit, Post.seq_normal, Post.seq_pan]; try simp) | (refine T_draw tOK tmix [([], 0), ([0], 1), ([0, 1], 2), ([0, 1], 3), ([0, 1, 2, 3], 4), ([0, 1, 2, 3, 4], 5), ([0, 1, 2, 3, 4, 5], 6), ([0, 1, 2, 3, 4, 5, 6], 7), ([0, 1, 2, 3, 4, 5, 6, 7], 8), ([0, 1, 2, 3, 4, 5, 6, 7, 8], 9), ([0, 1, 2, 3, 4, 5, 6, 7, 8], 10), ([0, 1, 2, 3, 4, 5, 6, 7, 8, 9, 10], 11), ([0, 1, 2, 3, 4, 5, 6, 7, 8, 9, 10, 11], 12), ([0, 1, 2, 3, 4, 5, 6, 7, 8, 9, 10, 11, 12], 13), ([0, 1, 2, 3, 4, 5, 6, 7, 8, 9, 10, 11, 12, 13], 14), ([0, 1, 2, 3, 4, 5, 6, 7, 8, 9, 10, 11, 12, 13, 14], 15), ([0, 1, 2, 3, 4, 5, 6, 7, 8, 9, 10, 11, 12, 13, 14, 15], 16), ([0, 1, 2, 3, 4, 5, 6, 7, 8, 9, 10, 11, 12, 13, 14, 15, 16], 17), ([0, 1, 2, 3, 4, 5, 6, 7, 8, 9, 10, 11, 12, 13, 14, 15, 16, 17], 18), ([0, 1, 2, 3, 4, 5, 6, 7, 8, 9, 10, 11, 12, 13, 14, 15, 16, 17, 18], 19), ([0, 1, 2, 3, 4, 5, 6, 7, 8, 9, 10, 11, 12, 13, 14, 15, 16, 17, 18], 20), ([0, 1, 2, 3, 4, 5, 6, 7, 8, 9, 10, 11, 12, 13, 14, 15, 16, 17, 18, 19, 20], 21), ([0, 1, 2, 3, 4, 5, 6, 7, 8, 9, 10, 11, 12, 13, 14, 15, 16, 17, 18, 19, 20, 21], 22), ([0, 1, 2, 3, 4, 5, 6, 7, 8, 9, 10, 11, 12, 13, 14, 15, 16, 17, 18], 23), ([0, 1, 2, 3, 4, 5, 6, 7, 8, 9, 10, 11, 12, 13, 14, 15, 16, 17, 18], 24), ([0, 1, 2, 3, 4, 5, 6, 7, 8, 9, 10, 11, 12, 13, 14, 15, 16, 17, 18, 24], 25), ([0, 1, 2, 3, 4, 5, 6, 7, 8, 9, 10, 11, 12, 13, 14, 15, 16, 17, 18, 23, 24, 25], 26), ([0, 1, 2, 3, 4, 5, 6, 7, 8, 9, 10, 11, 12, 13, 14, 15, 16, 17, 18, 23, 24, 25, 26], 27), ([0, 1, 2, 3, 4, 5, 6, 7, 8, 9, 10, 11, 12, 13, 14, 15, 16, 17, 18, 19, 20, 21, 22, 23, 24, 25, 26, 27], 28), ([0, 1, 2, 3, 4, 5, 6, 7, 8, 9, 10, 11, 12, 13, 14, 15, 16, 17, 18, 19, 20, 21, 22, 23, 24, 25, 26, 27, 28], 29), ([0, 1, 2, 3, 4, 5, 6, 7, 8, 9, 10, 11, 12, 13, 14, 15, 16, 17, 18, 19, 20, 21, 22, 23, 24, 25, 26, 27, 28, 29], 30), ([0, 1, 2, 3, 4, 5, 6, 7, 8, 9, 10, 11, 12, 13, 14, 15, 16, 17, 18, 19, 20, 21, 22, 23, 24, 25, 26, 27, 28, 29, 30], 31)] 28 (by decide +kernel) ?_; simp) | (refine T_draw tOK tmix [([], 3), ([0], 4), ([0, 1], 0), ([0, 1], 5), ([0, 1], 6), ([0, 1, 3, 4], 7), ([0, 1, 2, 3, 4, 5], 1), ([0, 1], 8), ([0, 1], 9), ([0, 1, 8], 10), ([0, 1, 7, 8, 9], 11), ([0, 1, 2, 3, 4, 5, 6, 7, 8, 9, 10], 2), ([0, 1, 2, 3, 4, 5, 6, 7, 8, 9, 10, 11], 12), ([0, 1], 13), ([0, 1, 13], 14), ([0, 1, 13, 14], 15), ([0, 1, 2, 3, 4, 5, 6, 7, 8, 9, 10, 11, 12, 13, 14, 15], 16), ([0, 1, 2, 3, 4, 5, 6, 7, 8, 9, 10, 11, 12, 13, 14, 15, 16], 17), ([0, 1, 2, 3, 4, 5, 6, 7, 8, 9, 10, 11, 12, 13, 14, 15, 16, 17], 18)] 16 (by decide +kernel) ?_; simp))
      refine C_right hlb ?_
      rw [hok]
      repeat (first | (rw [afterRF_ret]; simp ) | with_reducible apply_assumption -exfalso -symm)
      repeat (first | (refine T_seqk fun K hK => ?_) | (refine T_reg tOK rfl ?_; simp) | (refine T_ret ?_; try simp) | (refine T_skip ?_; try simp) | (refine T_blockk fun K hK => ?_) | (with_reducible apply_assumption -exfalso -symm) | (rw [afterRF_ret]; simp) | (refine T_exit ?_; try simp) | (refine T_cond_t ?_ ?_; · (simp; done)) | (refine T_cond_f ?_ ?_; · (simp; done)) | (rintro _ _ (_ | _) hz9 <;> first | (simp; done) | (simp at hz9; done)) | (refine And.intro ?_ ?_) | (simp only [Post.block_ret, Post.block_exit, Post.block_normal, Post.block_pan, Post.seq_ret, Post.seq_exit, Post.seq_normal, Post.seq_pan]; try simp) | (refine T_draw tOK tmix [([], 0), ([0], 1), ([0, 1], 2), ([0, 1], 3), ([0, 1, 2, 3], 4), ([0, 1, 2, 3, 4], 5), ([0, 1, 2, 3, 4, 5], 6), ([0, 1, 2, 3, 4, 5, 6], 7), ([0, 1, 2, 3, 4, 5, 6, 7], 8), ([0, 1, 2, 3, 4, 5, 6, 7, 8], 9), ([0, 1, 2, 3, 4, 5, 6, 7, 8], 10), ([0, 1, 2, 3, 4, 5, 6, 7, 8, 9, 10], 11), ([0, 1, 2, 3, 4, 5, 6, 7, 8, 9, 10, 11], 12), ([0, 1, 2, 3, 4, 5, 6, 7, 8, 9, 10, 11, 12], 13), ([0, 1, 2, 3, 4, 5, 6, 7, 8, 9, 10, 11, 12, 13], 14), ([0, 1, 2, 3, 4, 5, 6, 7, 8, 9, 10, 11, 12, 13, 14], 15), ([0, 1, 2, 3, 4, 5, 6, 7, 8, 9, 10, 11, 12, 13, 14, 15], 16), ([0, 1, 2, 3, 4, 5, 6, 7, 8, 9, 10, 11, 12, 13, 14, 15, 16], 17), ([0, 1, 2, 3, 4, 5, 6, 7, 8, 9, 10, 11, 12, 13, 14, 15, 16, 17], 18), ([0, 1, 2, 3, 4, 5, 6, 7, 8, 9, 10, 11, 12, 13, 14, 15, 16, 17, 18], 19), ([0, 1, 2, 3, 4, 5, 6, 7, 8, 9, 10, 11, 12, 13, 14, 15, 16, 17, 18], 20), ([0, 1, 2, 3, 4, 5, 6, 7, 8, 9, 10, 11, 12, 13, 14, 15, 16, 17, 18, 19, 20], 21), ([0, 1, 2, 3, 4, 5, 6, 7, 8, 9, 10, 11, 12, 13, 14, 15, 16, 17, 18, 19, 20, 21], 22), ([0, 1, 2, 3, 4, 5, 6, 7, 8, 9, 10, 11, 12, 13, 14, 15, 16, 17, 18], 23), ([0, 1, 2, 3, 4, 5, 6, 7, 8, 9, 10, 11, 12, 13, 14, 15, 16, 17, 18], 24), ([0, 1, 2, 3, 4, 5, 6, 7, 8, 9, 10, 11, 12, 13, 14, 15, 16, 17, 18, 24], 25), ([0, 1, 2, 3, 4, 5, 6, 7, 8, 9, 10, 11, 12, 13, 14, 15, 16, 17, 18, 23, 24, 25], 26), ([0, 1, 2, 3, 4, 5, 6, 7, 8, 9, 10, 11, 12, 13, 14, 15, 16, 17, 18, 23, 24, 25, 26], 27), ([0, 1, 2, 3, 4, 5, 6, 7, 8, 9, 10, 11, 12, 13, 14, 15, 16, 17, 18, 19, 20, 21, 22, 23, 24, 25, 26, 27], 28), ([0, 1, 2, 3, 4, 5, 6, 7, 8, 9, 10, 11, 12, 13, 14, 15, 16, 17, 18, 19, 20, 21, 22, 23, 24, 25, 26, 27, 28], 29), ([0, 1, 2, 3, 4, 5, 6, 7, 8, 9, 10, 11, 12, 13, 14, 15, 16, 17, 18, 19, 20, 21, 22, 23, 24, 25, 26, 27, 28, 29], 30), ([0, 1, 2, 3, 4, 5, 6, 7, 8, 9, 10, 11, 12, 13, 14, 15, 16, 17, 18, 19, 20, 21, 22, 23, 24, 25, 26, 27, 28, 29, 30], 31)] 28 (by decide +kernel) ?_; simp) | (refine T_draw tOK tmix [([], 3), ([0], 4), ([0, 1], 0), ([0, 1], 5), ([0, 1], 6), ([0, 1, 3, 4], 7), ([0, 1, 2, 3, 4, 5], 1), ([0, 1], 8), ([0, 1], 9), ([0, 1, 8], 10), ([0, 1, 7, 8, 9], 11), ([0, 1, 2, 3, 4, 5, 6, 7, 8, 9, 10], 2), ([0, 1, 2, 3, 4, 5, 6, 7, 8, 9, 10, 11], 12), ([0, 1], 13), ([0, 1, 13], 14), ([0, 1, 13, 14], 15), ([0, 1, 2, 3, 4, 5, 6, 7, 8, 9, 10, 11, 12, 13, 14, 15], 16), ([0, 1, 2, 3, 4, 5, 6, 7, 8, 9, 10, 11, 12, 13, 14, 15, 16], 17), ([0, 1, 2, 3, 4, 5, 6, 7, 8, 9, 10, 11, 12, 13, 14, 15, 16, 17], 18)] 16 (by decide +kernel) ?_; simp))
    | true =>
      have hne : ¬ l = [] := by rintro rfl; simp [okL] at hok
      have h0 : 0 < l.length := List.length_pos_iff.2 hne
      have wa : IntKind.i64.wrap (at0.toNat : Int) = at0.toNat := IntWalk.i64_in _ (by have := at0.toNat_lt; omega)
      obtain ⟨k, hk⟩ : ∃ k, at0.toNat % l.length = k := ⟨_, rfl⟩
      have hkl : k < l.length := by rw [← hk]; exact Nat.mod_lt _ h0
      have wt : (at0.toNat : Int).tmod (l.length : Int) = (k : Int) := by rw [← hk]; rfl
      have hw1 : IntKind.i64.wrap ((k : Int) + 1) = ((k + 1 : Nat) : Int) := by rw [IntWalk.i64_in _ (by omega)]; omega
      push_cast at hw1
      have tk : (is l).take k = is (l.take k) := by simp [is, List.map_take]
      have dr : (is l).drop (k + 1) = is (l.drop (k + 1)) := by simp [is, List.map_drop]
      have q1 : k ≤ l.length := by omega
      have q2 : (0 : Int) ≤ (k : Int) + 1 := by omega
      have q3 : ((k : Int) + 1).toNat = k + 1 := by omega
      have q4 : (k : Int) + 1 ≤ l.length := by omega
      have q5 : k + 1 ≤ l.length := by omega
      have l1 : (is (l.take k)).length = k := by rw [is_len]; simp; omega
      have l2 : (is (l.drop (k + 1))).length = l.length - (k + 1) := by rw [is_len]; simp
      have tl : (is l).take l.length = is l := by rw [← hll, List.take_length]
      have q6 : (2 * k + 1000) * 8 ≤ 281474976710656 := by omega
      have q7 : (2 * (k + (l.length - (k + 1))) + 1000) * 8 ≤ 281474976710656 := by omega
      repeat (first | (rw [afterRF_ret]; simp ) | with_reducible apply_assumption -exfalso -symm)
      repeat (first | (refine T_seqk fun K hK => ?_) | (refine T_reg tOK rfl ?_; simp [hne,wa,wt,hll,hw1,tk,dr,q1,q2,q3,q4,q5,q6,q7,l1,l2,tl,all_is]) | (refine T_ret ?_; try simp) | (refine T_skip ?_; try simp) | (refine T_blockk fun K hK => ?_) | (with_reducible apply_assumption -exfalso -symm) | (rw [afterRF_ret]; simp [hne,wa,wt,hll,hw1,tk,dr,q1,q2,q3,q4,q5,q6,q7,l1,l2,tl,all_is]) | (refine T_exit ?_; try simp) | (refine T_cond_t ?_ ?_; · (simp; done)) | (refine T_cond_f ?_ ?_; · (simp; done)) | (rintro _ _ (_ | _) hz9 <;> first | (simp; done) | (simp at hz9; done)) | (refine And.intro ?_ ?_) | (simp only [Post.block_ret, Post.block_exit, Post.block_normal, Post.block_pan, Post.seq_ret, Post.seq_exit, Post.seq_normal, Post.seq_pan]; try simp [hne,wa,wt,hll,hw1,tk,dr,q1,q2,q3,q4,q5,q6,q7,l1,l2,tl,all_is]) | (refine T_draw tOK tmix [([], 0), ([0], 1), ([0, 1], 2), ([0, 1], 3), ([0, 1, 2, 3], 4), ([0, 1, 2, 3, 4], 5), ([0, 1, 2, 3, 4, 5], 6), ([0, 1, 2, 3, 4, 5, 6], 7), ([0, 1, 2, 3, 4, 5, 6, 7], 8), ([0, 1, 2, 3, 4, 5, 6, 7, 8], 9), ([0, 1, 2, 3, 4, 5, 6, 7, 8], 10), ([0, 1, 2, 3, 4, 5, 6, 7, 8, 9, 10], 11), ([0, 1, 2, 3, 4, 5, 6, 7, 8, 9, 10, 11], 12), ([0, 1, 2, 3, 4, 5, 6, 7, 8, 9, 10, 11, 12], 13), ([0, 1, 2, 3, 4, 5, 6, 7, 8, 9, 10, 11, 12, 13], 14), ([0, 1, 2, 3, 4, 5, 6, 7, 8, 9, 10, 11, 12, 13, 14], 15), ([0, 1, 2, 3, 4, 5, 6, 7, 8, 9, 10, 11, 12, 13, 14, 15], 16), ([0, 1, 2, 3, 4, 5, 6, 7, 8, 9, 10, 11, 12, 13, 14, 15, 16], 17), ([0, 1, 2, 3, 4, 5, 6, 7, 8, 9, 10, 11, 12, 13, 14, 15, 16, 17], 18), ([0, 1, 2, 3, 4, 5, 6, 7, 8, 9, 10, 11, 12, 13, 14, 15, 16, 17, 18], 19), ([0, 1, 2, 3, 4, 5, 6, 7, 8, 9, 10, 11, 12, 13, 14, 15, 16, 17, 18], 20), ([0, 1, 2, 3, 4, 5, 6, 7, 8, 9, 10, 11, 12, 13, 14, 15, 16, 17, 18, 19, 20], 21), ([0, 1, 2, 3, 4, 5, 6, 7, 8, 9, 10, 11, 12, 13, 14, 15, 16, 17, 18, 19, 20, 21], 22), ([0, 1, 2, 3, 4, 5, 6, 7, 8, 9, 10, 11, 12, 13, 14, 15, 16, 17, 18], 23), ([0, 1, 2, 3, 4, 5, 6, 7, 8, 9, 10, 11, 12, 13, 14, 15, 16, 17, 18], 24), ([0, 1, 2, 3, 4, 5, 6, 7, 8, 9, 10, 11, 12, 13, 14, 15, 16, 17, 18, 24], 25), ([0, 1, 2, 3, 4, 5, 6, 7, 8, 9, 10, 11, 12, 13, 14, 15, 16, 17, 18, 23, 24, 25], 26), ([0, 1, 2, 3, 4, 5, 6, 7, 8, 9, 10, 11, 12, 13, 14, 15, 16, 17, 18, 23, 24, 25, 26], 27), ([0, 1, 2, 3, 4, 5, 6, 7, 8, 9, 10, 11, 12, 13, 14, 15, 16, 17, 18, 19, 20, 21, 22, 23, 24, 25, 26, 27], 28), ([0, 1, 2, 3, 4, 5, 6, 7, 8, 9, 10, 11, 12, 13, 14, 15, 16, 17, 18, 19, 20, 21, 22, 23, 24, 25, 26, 27, 28], 29), ([0, 1, 2, 3, 4, 5, 6, 7, 8, 9, 10, 11, 12, 13, 14, 15, 16, 17, 18, 19, 20, 21, 22, 23, 24, 25, 26, 27, 28, 29], 30), ([0, 1, 2, 3, 4, 5, 6, 7, 8, 9, 10, 11, 12, 13, 14, 15, 16, 17, 18, 19, 20, 21, 22, 23, 24, 25, 26, 27, 28, 29, 30], 31)] 28 (by decide +kernel) ?_; simp [hne,wa,wt,hll,hw1,tk,dr,q1,q2,q3,q4,q5,q6,q7,l1,l2,tl,all_is]) | (refine T_draw tOK tmix [([], 3), ([0], 4), ([0, 1], 0), ([0, 1], 5), ([0, 1], 6), ([0, 1, 3, 4], 7), ([0, 1, 2, 3, 4, 5], 1), ([0, 1], 8), ([0, 1], 9), ([0, 1, 8], 10), ([0, 1, 7, 8, 9], 11), ([0, 1, 2, 3, 4, 5, 6, 7, 8, 9, 10], 2), ([0, 1, 2, 3, 4, 5, 6, 7, 8, 9, 10, 11], 12), ([0, 1], 13), ([0, 1, 13], 14), ([0, 1, 13, 14], 15), ([0, 1, 2, 3, 4, 5, 6, 7, 8, 9, 10, 11, 12, 13, 14, 15], 16), ([0, 1, 2, 3, 4, 5, 6, 7, 8, 9, 10, 11, 12, 13, 14, 15, 16], 17), ([0, 1, 2, 3, 4, 5, 6, 7, 8, 9, 10, 11, 12, 13, 14, 15, 16, 17], 18)] 16 (by decide +kernel) ?_; simp [hne,wa,wt,hll,hw1,tk,dr,q1,q2,q3,q4,q5,q6,q7,l1,l2,tl,all_is]))
      have hcat : (is (l.take k)).take k ++ is (l.drop (k + 1)) = is (l.take k ++ l.drop (k + 1)) := by
        rw [List.take_of_length_le (by omega)]; simp [is]
      rw [hcat]
      have hln : k + (l.length - (k + 1)) = (l.take k ++ l.drop (k + 1)).length := by simp; omega
      refine RD_call (rd := [0]) (fun τ hτ => C_right_ref (g := 2) (l := l.take k ++ l.drop (k + 1)) ((hτ 0 (by simp)).trans rfl) hln (by omega) ⟨rfl, rfl⟩) ?_
      rw [okL_less hok hkl]
      have hd1 : decide (1 < (l.length : Int)) = decide (1 < l.length) := by congr 1; simp; omega
      simp [hd1]
      refine ⟨?_, ?_, ?_, hK _ _ ?_⟩
      · intro a l b h; right; cases b <;> rfl
      · intro a l b h; right; cases b <;> rfl
      · intro a l b h; right; cases b <;> rfl
      repeat (first | (refine T_seqk fun K hK => ?_) | (refine T_reg tOK rfl ?_; simp) | (refine T_ret ?_; try simp) | (refine T_skip ?_; try simp) | (refine T_blockk fun K hK => ?_) | (with_reducible apply_assumption -exfalso -symm) | (rw [afterRF_ret]; simp) | (refine T_exit ?_; try simp) | (refine T_cond_t ?_ ?_; · (simp; done)) | (refine T_cond_f ?_ ?_; · (simp; done)) | (rintro _ _ (_ | _) hz9 <;> first | (simp; done) | (simp at hz9; done)) | (refine And.intro ?_ ?_) | (simp only [Post.block_ret, Post.block_exit, Post.block_normal, Post.block_pan, Post.seq_ret, Post.seq_exit, Post.seq_normal, Post.seq_pan]; try simp) | (refine T_draw tOK tmix [([], 0), ([0], 1), ([0, 1], 2), ([0, 1], 3), ([0, 1, 2, 3], 4), ([0, 1, 2, 3, 4], 5), ([0, 1, 2, 3, 4, 5], 6), ([0, 1, 2, 3, 4, 5, 6], 7), ([0, 1, 2, 3, 4, 5, 6, 7], 8), ([0, 1, 2, 3, 4, 5, 6, 7, 8], 9), ([0, 1, 2, 3, 4, 5, 6, 7, 8], 10), ([0, 1, 2, 3, 4, 5, 6, 7, 8, 9, 10], 11), ([0, 1, 2, 3, 4, 5, 6, 7, 8, 9, 10, 11], 12), ([0, 1, 2, 3, 4, 5, 6, 7, 8, 9, 10, 11, 12], 13), ([0, 1, 2, 3, 4, 5, 6, 7, 8, 9, 10, 11, 12, 13], 14), ([0, 1, 2, 3, 4, 5, 6, 7, 8, 9, 10, 11, 12, 13, 14], 15), ([0, 1, 2, 3, 4, 5, 6, 7, 8, 9, 10, 11, 12, 13, 14, 15], 16), ([0, 1, 2, 3, 4, 5, 6, 7, 8, 9, 10, 11, 12, 13, 14, 15, 16], 17), ([0, 1, 2, 3, 4, 5, 6, 7, 8, 9, 10, 11, 12, 13, 14, 15, 16, 17], 18), ([0, 1, 2, 3, 4, 5, 6, 7, 8, 9, 10, 11, 12, 13, 14, 15, 16, 17, 18], 19), ([0, 1, 2, 3, 4, 5, 6, 7, 8, 9, 10, 11, 12, 13, 14, 15, 16, 17, 18], 20), ([0, 1, 2, 3, 4, 5, 6, 7, 8, 9, 10, 11, 12, 13, 14, 15, 16, 17, 18, 19, 20], 21), ([0, 1, 2, 3, 4, 5, 6, 7, 8, 9, 10, 11, 12, 13, 14, 15, 16, 17, 18, 19, 20, 21], 22), ([0, 1, 2, 3, 4, 5, 6, 7, 8, 9, 10, 11, 12, 13, 14, 15, 16, 17, 18], 23), ([0, 1, 2, 3, 4, 5, 6, 7, 8, 9, 10, 11, 12, 13, 14, 15, 16, 17, 18], 24), ([0, 1, 2, 3, 4, 5, 6, 7, 8, 9, 10, 11, 12, 13, 14, 15, 16, 17, 18, 24], 25), ([0, 1, 2, 3, 4, 5, 6, 7, 8, 9, 10, 11, 12, 13, 14, 15, 16, 17, 18, 23, 24, 25], 26), ([0, 1, 2, 3, 4, 5, 6, 7, 8, 9, 10, 11, 12, 13, 14, 15, 16, 17, 18, 23, 24, 25, 26], 27), ([0, 1, 2, 3, 4, 5, 6, 7, 8, 9, 10, 11, 12, 13, 14, 15, 16, 17, 18, 19, 20, 21, 22, 23, 24, 25, 26, 27], 28), ([0, 1, 2, 3, 4, 5, 6, 7, 8, 9, 10, 11, 12, 13, 14, 15, 16, 17, 18, 19, 20, 21, 22, 23, 24, 25, 26, 27, 28], 29), ([0, 1, 2, 3, 4, 5, 6, 7, 8, 9, 10, 11, 12, 13, 14, 15, 16, 17, 18, 19, 20, 21, 22, 23, 24, 25, 26, 27, 28, 29], 30), ([0, 1, 2, 3, 4, 5, 6, 7, 8, 9, 10, 11, 12, 13, 14, 15, 16, 17, 18, 19, 20, 21, 22, 23, 24, 25, 26, 27, 28, 29, 30], 31)] 28 (by decide +kernel) ?_; simp) | (refine T_draw tOK tmix [([], 3), ([0], 4), ([0, 1], 0), ([0, 1], 5), ([0, 1], 6), ([0, 1, 3, 4], 7), ([0, 1, 2, 3, 4, 5], 1), ([0, 1], 8), ([0, 1], 9), ([0, 1, 8], 10), ([0, 1, 7, 8, 9], 11), ([0, 1, 2, 3, 4, 5, 6, 7, 8, 9, 10], 2), ([0, 1, 2, 3, 4, 5, 6, 7, 8, 9, 10, 11], 12), ([0, 1], 13), ([0, 1, 13], 14), ([0, 1, 13, 14], 15), ([0, 1, 2, 3, 4, 5, 6, 7, 8, 9, 10, 11, 12, 13, 14, 15], 16), ([0, 1, 2, 3, 4, 5, 6, 7, 8, 9, 10, 11, 12, 13, 14, 15, 16], 17), ([0, 1, 2, 3, 4, 5, 6, 7, 8, 9, 10, 11, 12, 13, 14, 15, 16, 17], 18)] 16 (by decide +kernel) ?_; simp))
end
end Go.Proofs.Ytphhcpdkemagiaa
end
section
/- Manifests: the plain law of the bytes and of the checksum. -/
set_option linter.unusedVariables false
set_option linter.unusedSimpArgs false
set_option maxRecDepth 20000
namespace Go.Proofs.Ytphhcpdkemagiaa
open Go

/-- The table's index, from its highest byte. -/
def crcInv : List Nat := [0, 65, 195, 130, 134, 199, 69, 4, 77, 12, 142, 207, 203, 138, 8, 73, 154, 219, 89, 24, 28, 93, 223, 158, 215, 150, 20, 85, 81, 16, 146, 211, 117, 52, 182, 247, 243, 178, 48, 113, 56, 121, 251, 186, 190, 255, 125, 60, 239, 174, 44, 109, 105, 40, 170, 235, 162, 227, 97, 32, 36, 101, 231, 166, 234, 171, 41, 104, 108, 45, 175, 238, 167, 230, 100, 37, 33, 96, 226, 163, 112, 49, 179, 242, 246, 183, 53, 116, 61, 124, 254, 191, 187, 250, 120, 57, 159, 222, 92, 29, 25, 88, 218, 155, 210, 147, 17, 80, 84, 21, 151, 214, 5, 68, 198, 135, 131, 194, 64, 1, 72, 9, 139, 202, 206, 143, 13, 76, 149, 212, 86, 23, 19, 82, 208, 145, 216, 153, 27, 90, 94, 31, 157, 220, 15, 78, 204, 141, 137, 200, 74, 11, 66, 3, 129, 192, 196, 133, 7, 70, 224, 161, 35, 98, 102, 39, 165, 228, 173, 236, 110, 47, 43, 106, 232, 169, 122, 59, 185, 248, 252, 189, 63, 126, 55, 118, 244, 181, 177, 240, 114, 51, 127, 62, 188, 253, 249, 184, 58, 123, 50, 115, 241, 176, 180, 245, 119, 54, 229, 164, 38, 103, 99, 34, 160, 225, 168, 233, 107, 42, 46, 111, 237, 172, 10, 75, 201, 136, 140, 205, 79, 14, 71, 6, 132, 197, 193, 128, 2, 67, 144, 209, 83, 18, 22, 87, 213, 148, 221, 156, 30, 95, 91, 26, 152, 217]
theorem crcInv_ok : ((List.range 256).all fun i => crcInv.getD (cs8 i / 16777216) 300 == i) = true := by decide +kernel
theorem cs8_hi {i j : Nat} (hi : i < 256) (hj : j < 256) (h : cs8 i / 16777216 = cs8 j / 16777216) : i = j := by
  have a := List.all_eq_true.1 crcInv_ok i (List.mem_range.2 hi)
  have b := List.all_eq_true.1 crcInv_ok j (List.mem_range.2 hj)
  rw [beq_iff_eq] at a b
  rw [← a, ← b, h]
theorem xor_hi {a x : Nat} (ha : a < 16777216) : (a ^^^ x) / 16777216 = x / 16777216 := by
  have := Nat.shiftRight_xor_distrib (a := a) (b := x) (i := 24)
  simp only [Nat.shiftRight_eq_div_pow] at this
  rw [show (2 : Nat) ^ 24 = 16777216 from rfl, Nat.div_eq_of_lt ha, Nat.zero_xor] at this
  exact this
theorem xor_cancel {a b c : Nat} (h : a ^^^ b = a ^^^ c) : b = c := by
  have : a ^^^ (a ^^^ b) = a ^^^ (a ^^^ c) := by rw [h]
  rwa [← Nat.xor_assoc, ← Nat.xor_assoc, Nat.xor_self, Nat.zero_xor, Nat.zero_xor] at this
theorem xor_cancel' {a b c : Nat} (h : b ^^^ a = c ^^^ a) : b = c := xor_cancel (a := a) (by rwa [Nat.xor_comm b, Nat.xor_comm c] at h)
theorem crcStep_inj {r s : Nat} {c d : UInt8} (hr : r < 4294967296) (hs : s < 4294967296) (h : crcStep r c = crcStep s d) : r / 256 = s / 256 ∧ r % 256 ^^^ c.toNat = s % 256 ^^^ d.toNat := by
  unfold crcStep at h
  have hc := c.toNat_lt
  have hd := d.toNat_lt
  have l1 : r % 256 ^^^ c.toNat < 256 := Nat.xor_lt_two_pow (n := 8) (by omega) (by omega)
  have l2 : s % 256 ^^^ d.toNat < 256 := Nat.xor_lt_two_pow (n := 8) (by omega) (by omega)
  have e : r % 256 ^^^ c.toNat = s % 256 ^^^ d.toNat := by
    refine cs8_hi l1 l2 ?_
    exact (xor_hi (a := r / 256) (by omega)).symm.trans ((congrArg (· / 16777216) h).trans (xor_hi (a := s / 256) (by omega)))
  rw [e] at h
  exact ⟨xor_cancel' h, e⟩
theorem crcStep_l {r s : Nat} {c : UInt8} (hr : r < 4294967296) (hs : s < 4294967296) (h : crcStep r c = crcStep s c) : r = s := by
  obtain ⟨h1, h2⟩ := crcStep_inj hr hs h
  have := xor_cancel' h2
  omega
theorem crcStep_r {r : Nat} {c d : UInt8} (hr : r < 4294967296) (h : crcStep r c = crcStep r d) : c = d := UInt8.toNat_inj.1 (xor_cancel (crcStep_inj hr hr h).2)
theorem fold_inj : ∀ (l : List UInt8) {r s : Nat}, r < 4294967296 → s < 4294967296 → l.foldl crcStep r = l.foldl crcStep s → r = s
  | [], r, s, hr, hs, h => h
  | c :: l, r, s, hr, hs, h => crcStep_l hr hs (fold_inj l (crcStep_lt hr c) (crcStep_lt hs c) h)
/-- One byte turned, another checksum. -/
theorem crc_turn {pre post : List UInt8} {x y : UInt8} (h : crc (pre ++ x :: post) = crc (pre ++ y :: post)) : x = y := by
  unfold crc crcM at h
  have h := xor_cancel h
  simp only [List.foldl_append, List.foldl_cons] at h
  have hp : pre.foldl crcStep (4294967295 ^^^ 0) < 4294967296 := fold_lt pre (by decide)
  exact crcStep_r hp (fold_inj post (crcStep_lt hp x) (crcStep_lt hp y) h)
theorem ofNat_of {n : Nat} (h : n < 256) : (UInt8.ofNat n).toNat = n := by simp; omega
theorem rd4_be4 {n : Nat} (h : n < 4294967296) : rd4 (be4 n) = (n : Int) := by
  have e (m : Nat) : (UInt8.ofNat m).toNat = m % 256 := by simp
  unfold be4 rd4
  simp only [e]
  omega
theorem be4_rd4 (a b c d : UInt8) : be4 (rd4 [a, b, c, d]).toNat = [a, b, c, d] := by
  have ha := a.toNat_lt
  have hb := b.toNat_lt
  have hc := c.toNat_lt
  have hd := d.toNat_lt
  have e : (rd4 [a, b, c, d]).toNat = a.toNat * 16777216 + b.toNat * 65536 + c.toNat * 256 + d.toNat := by
    have : rd4 [a, b, c, d] = (a.toNat : Int) * 16777216 + (b.toNat : Int) * 65536 + (c.toNat : Int) * 256 + d.toNat := rfl
    rw [this]; omega
  rw [e]
  unfold be4
  have k (m : Nat) (x : UInt8) (h : m % 256 = x.toNat) : UInt8.ofNat m = x := UInt8.toNat_inj.1 (by simpa using h)
  rw [k _ a (by omega), k _ b (by omega), k _ c (by omega), k _ d (by omega)]
theorem be4_inj {a b : Nat} (ha : a < 4294967296) (hb : b < 4294967296) (h : be4 a = be4 b) : a = b := by
  have := congrArg rd4 h
  rw [rd4_be4 ha, rd4_be4 hb] at this
  omega
theorem mbody_drop {l : List Int} {j : Nat} (h : j < l.length) : ((mbody l).drop (4 * j)).take 4 = be4 (l[j]).toNat := by
  induction l generalizing j with
  | nil => simp at h
  | cons a l ih =>
    have hb : mbody (a :: l) = be4 a.toNat ++ mbody l := by simp [mbody]
    rw [hb]
    cases j with
    | zero => rw [Nat.mul_zero, List.drop_zero]; exact List.take_left' rfl
    | succ j =>
      have : (be4 a.toNat ++ mbody l).drop (4 * (j + 1)) = (mbody l).drop (4 * j) := by
        rw [List.drop_append, show (be4 a.toNat).drop (4 * (j + 1)) = [] from List.drop_eq_nil_of_le (by rw [be4_len]; omega), be4_len, List.nil_append]
        congr 1
      rw [this]
      have h' : j < l.length := by simpa using h
      rw [ih h']; simp
theorem chunks_mbody {l : List Int} (h : l.all inB = true) : chunks (mbody l) l.length = l := by
  refine List.ext_getElem (by simp [chunks]) fun j h1 h2 => ?_
  have hb := List.all_eq_true.1 h l[j] (List.getElem_mem h2)
  unfold inB at hb
  simp only [Bool.and_eq_true, decide_eq_true_eq] at hb
  simp only [chunks, List.getElem_map, List.getElem_range]
  rw [mbody_drop h2, rd4_be4 (by omega)]
  omega
theorem mbody_chunks : ∀ (n : Nat) (xs : List UInt8), xs.length = 4 * n → mbody (chunks xs n) = xs
  | 0, xs, h => by
    have : xs = [] := List.length_eq_zero_iff.1 (by omega)
    subst this; rfl
  | n + 1, xs, h => by
    match xs, h with
    | a :: b :: c :: d :: xs, h =>
      have ih := mbody_chunks n xs (by simp at h; omega)
      have : chunks (a :: b :: c :: d :: xs) (n + 1) = rd4 [a, b, c, d] :: chunks xs n := by
        unfold chunks
        rw [List.range_succ_eq_map, List.map_cons, List.map_map]
        congr 1
      rw [this]
      have e : mbody (rd4 [a, b, c, d] :: chunks xs n) = be4 (rd4 [a, b, c, d]).toNat ++ mbody (chunks xs n) := by simp [mbody]
      rw [e, be4_rd4, ih]; rfl
theorem okL_facts {l : List Int} (h : okL l = true) : 0 < l.length ∧ l.length ≤ 40 ∧ l.all inB = true := by
  unfold okL at h
  simp only [Bool.and_eq_true, decide_eq_true_eq] at h
  exact ⟨h.1.1.1, h.1.1.2, h.1.2⟩
theorem mout_len (l : List Int) : (mout l).length = 1 + 4 * l.length := by simp [mout, mbody_len]; omega
theorem manPut_len {l : List Int} (h : okL l = true) : (manPut l).length = 5 + 4 * l.length := by
  unfold manPut; rw [if_pos h, List.length_append, mout_len, be4_len]; omega
theorem manPut_pos {l : List Int} : (0 < (manPut l).length) = (okL l = true) := by
  cases h : okL l with
  | true => rw [manPut_len h]; simp; omega
  | false => unfold manPut; rw [if_neg (by simp [h])]; simp
theorem mout_head {l : List Int} (h : okL l = true) (t : List UInt8) : (((mout l) ++ t).headD 0).toNat = l.length := by
  have := (okL_facts h).2.1
  show (UInt8.ofNat l.length).toNat = l.length
  exact ofNat_of (by omega)
theorem manGet_put {l : List Int} (h : okL l = true) : manGet (manPut l) = (l, 0) := by
  have hl := manPut_len h
  have ⟨f1, f2, f3⟩ := okL_facts h
  have hp : manPut l = mout l ++ be4 (crc (mout l)) := by unfold manPut; rw [if_pos h]
  have hh := mout_head h (be4 (crc (mout l)))
  unfold manGet
  rw [hl, hp, hh, if_neg (by omega)]
  have hm := mout_len l
  rw [show 5 + 4 * l.length - 4 = (mout l).length by omega, List.take_left' rfl, List.drop_left' rfl, if_neg (by simp)]
  have : (mout l).drop 1 = mbody l := rfl
  rw [this, chunks_mbody f3, if_pos h]
theorem manGet_more {l : List Int} (h : okL l = true) (x : UInt8) : manGet (manPut l ++ [x]) = ([], 12) := by
  have hl := manPut_len h
  have hp : manPut l = mout l ++ be4 (crc (mout l)) := by unfold manPut; rw [if_pos h]
  have hh := mout_head h (be4 (crc (mout l)) ++ [x])
  unfold manGet
  rw [List.length_append, hl, hp, List.append_assoc, hh, if_pos (by simp)]
theorem manGet_none {b : List UInt8} (h : (manGet b).2 ≠ 0) : (manGet b).1 = [] := by
  unfold manGet at h ⊢
  split
  · rfl
  · split
    · rfl
    · split
      · rename_i h1 h2 h3; rw [if_neg h1, if_neg h2, if_pos h3] at h; simp at h
      · rfl
theorem manGet_some {b : List UInt8} (h : (manGet b).2 = 0) : okL (manGet b).1 = true ∧ manPut (manGet b).1 = b := by
  unfold manGet at h ⊢
  split at h
  · simp at h
  · rename_i h1
    split at h
    · simp at h
    · rename_i h2
      split at h
      · rename_i h3
        rw [if_neg h1, if_neg h2, if_pos h3]
        refine ⟨h3, ?_⟩
        simp only
        unfold manPut
        rw [if_pos h3]
        match b, h1, h2, h3 with
        | [], h1, _, _ => simp at h1
        | n :: t, h1, h2, h3 =>
          have hl : t.length = 4 + 4 * n.toNat := by simp at h1; omega
          have hx : ((n :: t).take ((n :: t).length - 4)).drop 1 = t.take (4 * n.toNat) := by
            rw [show (n :: t).length - 4 = 4 * n.toNat + 1 by simp; omega, List.take_succ_cons]; rfl
          have hm : mout (chunks (((n :: t).take ((n :: t).length - 4)).drop 1) n.toNat) = (n :: t).take ((n :: t).length - 4) := by
            unfold mout
            rw [hx, mbody_chunks _ _ (by simp; omega), chunks_len]
            rw [show (n :: t).length - 4 = 4 * n.toNat + 1 by simp; omega, List.take_succ_cons]
            congr 1
            exact UInt8.toNat_inj.1 (by simp)
          have hm' : mout (chunks (((n :: t).take ((n :: t).length - 4)).drop 1) ((n :: t).headD 0).toNat) = (n :: t).take ((n :: t).length - 4) := hm
          rw [hm']
          have h2 : be4 (crc ((n :: t).take ((n :: t).length - 4))) = (n :: t).drop ((n :: t).length - 4) := Decidable.not_not.1 h2
          rw [h2, List.take_append_drop]
      · simp at h
/-- One byte turned is none. -/
theorem manGet_turn {l : List Int} (h : okL l = true) {k : Nat} (hk : k < (manPut l).length) {v : UInt8} (hv : v ≠ (manPut l)[k]) : (manGet ((manPut l).set k v)).2 ≠ 0 := by
  have hl := manPut_len h
  have hp : manPut l = mout l ++ be4 (crc (mout l)) := by unfold manPut; rw [if_pos h]
  have hm := mout_len l
  have hm4 : 5 + 4 * l.length - 4 = (mout l).length := by omega
  unfold manGet
  rw [List.length_set, hl]
  by_cases h0 : k = 0
  · subst h0
    have : ((manPut l).set 0 v).headD 0 = v := by
      cases hq : manPut l with
      | nil => rw [hq] at hl; simp at hl; omega
      | cons a t => rfl
    rw [this, if_pos]
    · simp
    · refine .inr fun e => hv (UInt8.toNat_inj.1 ?_)
      have hh := mout_head h (be4 (crc (mout l)))
      rw [← hp] at hh
      have : ∀ (xs : List UInt8) (hx : 0 < xs.length), xs[0] = xs.headD 0 := fun xs hx => by cases xs with
        | nil => simp at hx
        | cons a t => rfl
      rw [this _ hk, hh]; omega
  · have hh : (((manPut l).set k v).headD 0).toNat = l.length := by
      have hh := mout_head h (be4 (crc (mout l)))
      rw [← hp] at hh
      rw [← hh]
      cases hq : manPut l with
      | nil => rfl
      | cons a t =>
        cases k with
        | zero => exact absurd rfl h0
        | succ k => rfl
    rw [hh, if_neg (by omega), hm4]
    have key : be4 (crc (((manPut l).set k v).take (mout l).length)) ≠ ((manPut l).set k v).drop (mout l).length := by
      by_cases hk' : k < (mout l).length
      · have e : (manPut l).set k v = (mout l).set k v ++ be4 (crc (mout l)) := by rw [hp, List.set_append_left _ _ hk']
        have hvk : (manPut l)[k] = (mout l)[k] := by simp only [hp]; rw [List.getElem_append_left hk']
        rw [e, List.take_left' (by simp), List.drop_left' (by simp)]
        intro hc
        have hc := be4_inj (crc_lt _) (crc_lt _) hc
        have s1 : (mout l).set k v = (mout l).take k ++ v :: (mout l).drop (k + 1) := List.set_eq_take_append_cons_drop.trans (if_pos hk')
        have s2 : mout l = (mout l).take k ++ (mout l)[k] :: (mout l).drop (k + 1) := by
          rw [← List.drop_eq_getElem_cons hk', List.take_append_drop]
        rw [s1] at hc
        have hc := hc.trans (congrArg crc s2)
        exact hv ((crc_turn hc).trans hvk.symm)
      · have hk' : (mout l).length ≤ k := by omega
        have e : (manPut l).set k v = mout l ++ (be4 (crc (mout l))).set (k - (mout l).length) v := by rw [hp, List.set_append_right _ _ hk']
        rw [e, List.take_left' rfl, List.drop_left' rfl]
        intro hc
        have hlt : k - (mout l).length < (be4 (crc (mout l))).length := by rw [be4_len]; omega
        have hvk : (manPut l)[k] = (be4 (crc (mout l)))[k - (mout l).length] := by simp only [hp]; rw [List.getElem_append_right hk']
        have : (be4 (crc (mout l)))[k - (mout l).length] = v := by
          have h3 : (be4 (crc (mout l)))[k - (mout l).length]? = some v := by rw [hc, List.getElem?_set_self hlt]
          rw [List.getElem?_eq_getElem hlt] at h3; simpa using h3
        exact hv (this.symm.trans hvk.symm)
    rw [if_pos key]; simp
end Go.Proofs.Ytphhcpdkemagiaa
end
section
/- ManifestBack: the walk. -/
set_option linter.unusedVariables false
set_option linter.unusedSimpArgs false
set_option maxRecDepth 20000
namespace Go.Proofs.Ytphhcpdkemagiaa
open Go
attribute [local simp] RF_nil RF_cons afterRF_ret nilCmp sop sGuard isCall sCallee Fr.eval Fr.get Fr.put ofConst sLoad sStore sBuiltin Fr.args bodyQ sRes oneOf sBin sInt sUn
attribute [local simp] RD_nil RD_cons noConf clear accAdd Tab.pr Tab.slot foot wid idOf refId Op.operands Call.operands sFieldAddr sNilCheck sLookup keyLit sMapSet sMapDel sLen Store.at Store.new getP setP typeAt fits evalParts sBuildSlice sFill sList sApp sAppend frzRe frz pureB pureL
attribute [local simp] optEval sSlice sIndexAddr xop sClear
theorem bytesOf_u8l : ∀ l : List UInt8, bytesOf (u8l l) = some l
  | [] => rfl
  | a :: l => by
    have ih := bytesOf_u8l l
    have ha := a.toNat_lt
    unfold u8l at ih ⊢
    simp [bytesOf, ih]; omega
/-- Of a value it may be forgotten what it is. -/
theorem C_weaken {E : Env} {f : FuncId} {args : List PV} {σ : Store} {R : Re → Store → Prop} {x y : PV} (hw : ∀ c v, V E c x v → V E c y v) (h : C E f args σ fun re σ' => re = .ret x ∧ R (.ret y) σ') : C E f args σ R := fun cx vs hn hv =>
  (h cx vs hn hv).mono fun e w ⟨re, σ', cx', h1, h2, h3, h4, h5⟩ => ⟨.ret y, σ', cx', h1, h2.2, by
    rw [h2.1] at h3
    cases e <;> simp only [ReOK] at h3 ⊢
    exact hw _ _ h3, h4, h5⟩
theorem V_fst {E : Env} {c : Cx} {a b : PV} {v : Value} (h : V E c (.tup [a, b]) v) : V E c (.tup [.undef, b]) v := by
  obtain ⟨us, h1, h2⟩ := h.tup_inv
  subst h1
  have key : ∀ ws, VL E c [a, b] ws → VL E c [.undef, b] ws := fun ws h => by
    cases h with
    | undef hs => exact .undef hs
    | one h1 hn h hs => exact .undef hs
    | agg h hs => exact .undef hs
    | tup h hs => exact .undef hs
  exact .tup (key _ h2) .nil
theorem C_get_ref {R : Re → Store → Prop} {σ : Store} {b g n : Nat} {x : List UInt8} (hb : Store.at σ b = some (.cells 5 g (u8l x))) (hn : n = x.length) (hl : x.length < 1000000000) (h : R (.ret (.tup [.undef, i64 (manGet x).2])) σ) : C tE 9 [.ref b g 0 n] σ R := by
  refine C_lend tOK (args' := [u8s x]) ?_ (C_weaken (x := .tup [.lit (is (manGet x).1), i64 (manGet x).2]) (fun c v => V_fst) (C_get hl ⟨rfl, rfl, h⟩))
  simp only [List.mapM_cons, List.mapM_nil]
  rw [frz_u8row hb hn]; rfl
section
variable {R : Re → Store → Prop} {l : List Int} {b : List UInt8} {at0 : Nat} {by0 : UInt8}
set_option maxHeartbeats 4000000 in
theorem C_mback (hat : at0 < 65536) (h : ∀ σ, R (.ret (.bool true)) σ) : C tE 4 [.lit (is l), u8s b, .int .u16 at0, .int .u8 by0.toNat] [] R := by
  have hll := is_len l
  have hbl := u8l_len b
  cases h9 : decide (900 < (l.length : Int)) with
  | true =>
    refine C_bodyk tOK Try.func4 rfl (Nat.le_of_ble_eq_true rfl) fun K hK => ?_; simp
    repeat (first | (refine T_seqk fun K hK => ?_) | (refine T_reg tOK rfl ?_; simp [hll,h9]) | (refine T_ret ?_; try simp) | (refine T_skip ?_; try simp) | (refine T_blockk fun K hK => ?_) | (with_reducible apply_assumption -exfalso -symm) | (rw [afterRF_ret]; simp [hll,h9]) | (refine T_exit ?_; try simp) | (refine T_cond_t ?_ ?_; · (simp; done)) | (refine T_cond_f ?_ ?_; · (simp; done)) | (rintro _ _ (_ | _) hz9 <;> first | (simp; done) | (simp at hz9; done)) | (refine And.intro ?_ ?_) | (simp only [Post.block_ret, Post.block_exit, Post.block_normal, Post.block_pan, Post.seq_ret, Post.seq_exit, Post.seq_normal, Post.seq_pan]; try simp [hll,h9]) | (refine T_loop (TL_round ?_)) | (refine TL_round ?_) | (refine T_draw tOK tmix [([], 0), ([0], 1), ([0, 1], 2), ([0, 1, 2], 3), ([0, 1, 2, 3], 4), ([0, 1, 2, 3, 4], 5), ([0, 1, 2, 3, 4, 5], 6), ([0, 1, 2, 3, 4, 5, 6], 7), ([0, 1, 2, 3, 4, 5, 6, 7], 8), ([0, 1, 2, 3, 4, 5, 6, 7, 8], 9), ([0, 1, 2, 3, 4, 5, 6, 7, 8, 9], 10), ([0, 1, 2, 3, 4, 5, 6, 7, 8, 9, 10], 11), ([0, 1, 2, 3, 4, 5, 6, 7, 8, 9, 10, 11], 12), ([0, 1, 2, 3, 4, 5, 6, 7, 8, 9, 10, 11, 12], 13), ([0, 1, 2, 3, 4, 5, 6, 7, 8, 9, 10, 11, 12, 13], 14), ([0, 1, 2, 3, 4, 5, 6, 7, 8, 9, 10, 11, 12, 13, 14], 15), ([0, 1, 2, 3, 4, 5, 6, 7, 8, 9, 10, 11, 12, 13, 14, 15], 16), ([0, 1, 2, 3, 4, 5, 6, 7, 8, 9, 10, 11, 12, 13, 14, 15, 16], 17), ([0, 1, 2, 3, 4, 5, 6, 7, 8, 9, 10, 11, 12, 13, 14, 15, 16, 17], 18), ([0, 1, 2, 3, 4, 5, 6, 7, 8, 9, 10, 11, 12, 13, 14, 15, 16, 17, 18], 19), ([0, 1, 2, 3, 4, 5, 6, 7, 8, 9, 10, 11, 12, 13, 14, 15, 16], 20), ([0, 1, 2, 3, 4, 5, 6, 7, 8, 9, 10, 11, 12, 13, 14, 15, 16, 20], 21), ([0, 1, 2, 3, 4, 5, 6, 7, 8, 9, 10, 11, 12, 13, 14, 15, 16, 17, 18, 19, 20, 21], 22), ([0, 1, 2, 3, 4, 5, 6, 7, 8, 9, 10, 11, 12, 13, 14, 15, 16, 17, 18, 19, 20, 21, 22], 23), ([0, 1, 2, 3, 4, 5, 6, 7, 8, 9, 10, 11, 12, 13, 14, 15, 16, 17, 18, 19, 20, 21, 22, 23], 24), ([0, 1, 2, 3, 4, 5, 6, 7, 8, 9, 10, 11, 12, 13, 14, 15, 16, 17, 18, 19, 20, 21, 22, 23, 24], 25), ([0, 1, 2, 3, 4, 5, 6, 7, 8, 9, 10, 11, 12, 13, 14, 15, 16, 17, 18, 19, 20, 21, 22, 23, 24, 25], 26)] 22 (by decide +kernel) ?_; simp [hll,h9]))
    refine C_mhead ?_
    repeat (first | (rw [afterRF_ret]; simp [hll,h9]) | with_reducible apply_assumption -exfalso -symm)
    repeat (first | (refine T_seqk fun K hK => ?_) | (refine T_reg tOK rfl ?_; simp [hll,h9]) | (refine T_ret ?_; try simp) | (refine T_skip ?_; try simp) | (refine T_blockk fun K hK => ?_) | (with_reducible apply_assumption -exfalso -symm) | (rw [afterRF_ret]; simp [hll,h9]) | (refine T_exit ?_; try simp) | (refine T_cond_t ?_ ?_; · (simp; done)) | (refine T_cond_f ?_ ?_; · (simp; done)) | (rintro _ _ (_ | _) hz9 <;> first | (simp; done) | (simp at hz9; done)) | (refine And.intro ?_ ?_) | (simp only [Post.block_ret, Post.block_exit, Post.block_normal, Post.block_pan, Post.seq_ret, Post.seq_exit, Post.seq_normal, Post.seq_pan]; try simp [hll,h9]) | (refine T_draw tOK tmix [([], 0), ([0], 1), ([0, 1], 2), ([0, 1, 2], 3), ([0, 1, 2, 3], 4), ([0, 1, 2, 3, 4], 5), ([0, 1, 2, 3, 4, 5], 6), ([0, 1, 2, 3, 4, 5, 6], 7), ([0, 1, 2, 3, 4, 5, 6, 7], 8), ([0, 1, 2, 3, 4, 5, 6, 7, 8], 9), ([0, 1, 2, 3, 4, 5, 6, 7, 8, 9], 10), ([0, 1, 2, 3, 4, 5, 6, 7, 8, 9, 10], 11), ([0, 1, 2, 3, 4, 5, 6, 7, 8, 9, 10, 11], 12), ([0, 1, 2, 3, 4, 5, 6, 7, 8, 9, 10, 11, 12], 13), ([0, 1, 2, 3, 4, 5, 6, 7, 8, 9, 10, 11, 12, 13], 14), ([0, 1, 2, 3, 4, 5, 6, 7, 8, 9, 10, 11, 12, 13, 14], 15), ([0, 1, 2, 3, 4, 5, 6, 7, 8, 9, 10, 11, 12, 13, 14, 15], 16), ([0, 1, 2, 3, 4, 5, 6, 7, 8, 9, 10, 11, 12, 13, 14, 15, 16], 17), ([0, 1, 2, 3, 4, 5, 6, 7, 8, 9, 10, 11, 12, 13, 14, 15, 16, 17], 18), ([0, 1, 2, 3, 4, 5, 6, 7, 8, 9, 10, 11, 12, 13, 14, 15, 16, 17, 18], 19), ([0, 1, 2, 3, 4, 5, 6, 7, 8, 9, 10, 11, 12, 13, 14, 15, 16], 20), ([0, 1, 2, 3, 4, 5, 6, 7, 8, 9, 10, 11, 12, 13, 14, 15, 16, 20], 21), ([0, 1, 2, 3, 4, 5, 6, 7, 8, 9, 10, 11, 12, 13, 14, 15, 16, 17, 18, 19, 20, 21], 22), ([0, 1, 2, 3, 4, 5, 6, 7, 8, 9, 10, 11, 12, 13, 14, 15, 16, 17, 18, 19, 20, 21, 22], 23), ([0, 1, 2, 3, 4, 5, 6, 7, 8, 9, 10, 11, 12, 13, 14, 15, 16, 17, 18, 19, 20, 21, 22, 23], 24), ([0, 1, 2, 3, 4, 5, 6, 7, 8, 9, 10, 11, 12, 13, 14, 15, 16, 17, 18, 19, 20, 21, 22, 23, 24], 25), ([0, 1, 2, 3, 4, 5, 6, 7, 8, 9, 10, 11, 12, 13, 14, 15, 16, 17, 18, 19, 20, 21, 22, 23, 24, 25], 26)] 22 (by decide +kernel) ?_; simp [hll,h9]))
  | false =>
    have hl9 : l.length ≤ 900 := by simp at h9; omega
    cases h10 : decide (9000 < (b.length : Int)) with
    | true =>
      refine C_bodyk tOK Try.func4 rfl (Nat.le_of_ble_eq_true rfl) fun K hK => ?_; simp
      repeat (first | (refine T_seqk fun K hK => ?_) | (refine T_reg tOK rfl ?_; simp [hll,h9]) | (refine T_ret ?_; try simp) | (refine T_skip ?_; try simp) | (refine T_blockk fun K hK => ?_) | (with_reducible apply_assumption -exfalso -symm) | (rw [afterRF_ret]; simp [hll,h9]) | (refine T_exit ?_; try simp) | (refine T_cond_t ?_ ?_; · (simp; done)) | (refine T_cond_f ?_ ?_; · (simp; done)) | (rintro _ _ (_ | _) hz9 <;> first | (simp; done) | (simp at hz9; done)) | (refine And.intro ?_ ?_) | (simp only [Post.block_ret, Post.block_exit, Post.block_normal, Post.block_pan, Post.seq_ret, Post.seq_exit, Post.seq_normal, Post.seq_pan]; try simp [hll,h9]) | (refine T_loop (TL_round ?_)) | (refine TL_round ?_) | (refine T_draw tOK tmix [([], 0), ([0], 1), ([0, 1], 2), ([0, 1, 2], 3), ([0, 1, 2, 3], 4), ([0, 1, 2, 3, 4], 5), ([0, 1, 2, 3, 4, 5], 6), ([0, 1, 2, 3, 4, 5, 6], 7), ([0, 1, 2, 3, 4, 5, 6, 7], 8), ([0, 1, 2, 3, 4, 5, 6, 7, 8], 9), ([0, 1, 2, 3, 4, 5, 6, 7, 8, 9], 10), ([0, 1, 2, 3, 4, 5, 6, 7, 8, 9, 10], 11), ([0, 1, 2, 3, 4, 5, 6, 7, 8, 9, 10, 11], 12), ([0, 1, 2, 3, 4, 5, 6, 7, 8, 9, 10, 11, 12], 13), ([0, 1, 2, 3, 4, 5, 6, 7, 8, 9, 10, 11, 12, 13], 14), ([0, 1, 2, 3, 4, 5, 6, 7, 8, 9, 10, 11, 12, 13, 14], 15), ([0, 1, 2, 3, 4, 5, 6, 7, 8, 9, 10, 11, 12, 13, 14, 15], 16), ([0, 1, 2, 3, 4, 5, 6, 7, 8, 9, 10, 11, 12, 13, 14, 15, 16], 17), ([0, 1, 2, 3, 4, 5, 6, 7, 8, 9, 10, 11, 12, 13, 14, 15, 16, 17], 18), ([0, 1, 2, 3, 4, 5, 6, 7, 8, 9, 10, 11, 12, 13, 14, 15, 16, 17, 18], 19), ([0, 1, 2, 3, 4, 5, 6, 7, 8, 9, 10, 11, 12, 13, 14, 15, 16], 20), ([0, 1, 2, 3, 4, 5, 6, 7, 8, 9, 10, 11, 12, 13, 14, 15, 16, 20], 21), ([0, 1, 2, 3, 4, 5, 6, 7, 8, 9, 10, 11, 12, 13, 14, 15, 16, 17, 18, 19, 20, 21], 22), ([0, 1, 2, 3, 4, 5, 6, 7, 8, 9, 10, 11, 12, 13, 14, 15, 16, 17, 18, 19, 20, 21, 22], 23), ([0, 1, 2, 3, 4, 5, 6, 7, 8, 9, 10, 11, 12, 13, 14, 15, 16, 17, 18, 19, 20, 21, 22, 23], 24), ([0, 1, 2, 3, 4, 5, 6, 7, 8, 9, 10, 11, 12, 13, 14, 15, 16, 17, 18, 19, 20, 21, 22, 23, 24], 25), ([0, 1, 2, 3, 4, 5, 6, 7, 8, 9, 10, 11, 12, 13, 14, 15, 16, 17, 18, 19, 20, 21, 22, 23, 24, 25], 26)] 22 (by decide +kernel) ?_; simp [hll,h9]))
      refine C_mhead ?_
      repeat (first | (rw [afterRF_ret]; simp [hll,hbl,h9,h10]) | with_reducible apply_assumption -exfalso -symm)
      repeat (first | (refine T_seqk fun K hK => ?_) | (refine T_reg tOK rfl ?_; simp [hll,hbl,h9,h10]) | (refine T_ret ?_; try simp) | (refine T_skip ?_; try simp) | (refine T_blockk fun K hK => ?_) | (with_reducible apply_assumption -exfalso -symm) | (rw [afterRF_ret]; simp [hll,hbl,h9,h10]) | (refine T_exit ?_; try simp) | (refine T_cond_t ?_ ?_; · (simp; done)) | (refine T_cond_f ?_ ?_; · (simp; done)) | (rintro _ _ (_ | _) hz9 <;> first | (simp; done) | (simp at hz9; done)) | (refine And.intro ?_ ?_) | (simp only [Post.block_ret, Post.block_exit, Post.block_normal, Post.block_pan, Post.seq_ret, Post.seq_exit, Post.seq_normal, Post.seq_pan]; try simp [hll,hbl,h9,h10]) | (refine T_draw tOK tmix [([], 0), ([0], 1), ([0, 1], 2), ([0, 1, 2], 3), ([0, 1, 2, 3], 4), ([0, 1, 2, 3, 4], 5), ([0, 1, 2, 3, 4, 5], 6), ([0, 1, 2, 3, 4, 5, 6], 7), ([0, 1, 2, 3, 4, 5, 6, 7], 8), ([0, 1, 2, 3, 4, 5, 6, 7, 8], 9), ([0, 1, 2, 3, 4, 5, 6, 7, 8, 9], 10), ([0, 1, 2, 3, 4, 5, 6, 7, 8, 9, 10], 11), ([0, 1, 2, 3, 4, 5, 6, 7, 8, 9, 10, 11], 12), ([0, 1, 2, 3, 4, 5, 6, 7, 8, 9, 10, 11, 12], 13), ([0, 1, 2, 3, 4, 5, 6, 7, 8, 9, 10, 11, 12, 13], 14), ([0, 1, 2, 3, 4, 5, 6, 7, 8, 9, 10, 11, 12, 13, 14], 15), ([0, 1, 2, 3, 4, 5, 6, 7, 8, 9, 10, 11, 12, 13, 14, 15], 16), ([0, 1, 2, 3, 4, 5, 6, 7, 8, 9, 10, 11, 12, 13, 14, 15, 16], 17), ([0, 1, 2, 3, 4, 5, 6, 7, 8, 9, 10, 11, 12, 13, 14, 15, 16, 17], 18), ([0, 1, 2, 3, 4, 5, 6, 7, 8, 9, 10, 11, 12, 13, 14, 15, 16, 17, 18], 19), ([0, 1, 2, 3, 4, 5, 6, 7, 8, 9, 10, 11, 12, 13, 14, 15, 16], 20), ([0, 1, 2, 3, 4, 5, 6, 7, 8, 9, 10, 11, 12, 13, 14, 15, 16, 20], 21), ([0, 1, 2, 3, 4, 5, 6, 7, 8, 9, 10, 11, 12, 13, 14, 15, 16, 17, 18, 19, 20, 21], 22), ([0, 1, 2, 3, 4, 5, 6, 7, 8, 9, 10, 11, 12, 13, 14, 15, 16, 17, 18, 19, 20, 21, 22], 23), ([0, 1, 2, 3, 4, 5, 6, 7, 8, 9, 10, 11, 12, 13, 14, 15, 16, 17, 18, 19, 20, 21, 22, 23], 24), ([0, 1, 2, 3, 4, 5, 6, 7, 8, 9, 10, 11, 12, 13, 14, 15, 16, 17, 18, 19, 20, 21, 22, 23, 24], 25), ([0, 1, 2, 3, 4, 5, 6, 7, 8, 9, 10, 11, 12, 13, 14, 15, 16, 17, 18, 19, 20, 21, 22, 23, 24, 25], 26)] 22 (by decide +kernel) ?_; simp [hll,hbl,h9,h10]))
    | false =>
      have hb9 : b.length ≤ 9000 := by simp at h10; omega
      refine C_bodyk tOK Try.func4 rfl (Nat.le_of_ble_eq_true rfl) fun K hK => ?_; simp
      repeat (first | (refine T_seqk fun K hK => ?_) | (refine T_reg tOK rfl ?_; simp [hll,h9]) | (refine T_ret ?_; try simp) | (refine T_skip ?_; try simp) | (refine T_blockk fun K hK => ?_) | (with_reducible apply_assumption -exfalso -symm) | (rw [afterRF_ret]; simp [hll,h9]) | (refine T_exit ?_; try simp) | (refine T_cond_t ?_ ?_; · (simp; done)) | (refine T_cond_f ?_ ?_; · (simp; done)) | (rintro _ _ (_ | _) hz9 <;> first | (simp; done) | (simp at hz9; done)) | (refine And.intro ?_ ?_) | (simp only [Post.block_ret, Post.block_exit, Post.block_normal, Post.block_pan, Post.seq_ret, Post.seq_exit, Post.seq_normal, Post.seq_pan]; try simp [hll,h9]) | (refine T_loop (TL_round ?_)) | (refine TL_round ?_) | (refine T_draw tOK tmix [([], 0), ([0], 1), ([0, 1], 2), ([0, 1, 2], 3), ([0, 1, 2, 3], 4), ([0, 1, 2, 3, 4], 5), ([0, 1, 2, 3, 4, 5], 6), ([0, 1, 2, 3, 4, 5, 6], 7), ([0, 1, 2, 3, 4, 5, 6, 7], 8), ([0, 1, 2, 3, 4, 5, 6, 7, 8], 9), ([0, 1, 2, 3, 4, 5, 6, 7, 8, 9], 10), ([0, 1, 2, 3, 4, 5, 6, 7, 8, 9, 10], 11), ([0, 1, 2, 3, 4, 5, 6, 7, 8, 9, 10, 11], 12), ([0, 1, 2, 3, 4, 5, 6, 7, 8, 9, 10, 11, 12], 13), ([0, 1, 2, 3, 4, 5, 6, 7, 8, 9, 10, 11, 12, 13], 14), ([0, 1, 2, 3, 4, 5, 6, 7, 8, 9, 10, 11, 12, 13, 14], 15), ([0, 1, 2, 3, 4, 5, 6, 7, 8, 9, 10, 11, 12, 13, 14, 15], 16), ([0, 1, 2, 3, 4, 5, 6, 7, 8, 9, 10, 11, 12, 13, 14, 15, 16], 17), ([0, 1, 2, 3, 4, 5, 6, 7, 8, 9, 10, 11, 12, 13, 14, 15, 16, 17], 18), ([0, 1, 2, 3, 4, 5, 6, 7, 8, 9, 10, 11, 12, 13, 14, 15, 16, 17, 18], 19), ([0, 1, 2, 3, 4, 5, 6, 7, 8, 9, 10, 11, 12, 13, 14, 15, 16], 20), ([0, 1, 2, 3, 4, 5, 6, 7, 8, 9, 10, 11, 12, 13, 14, 15, 16, 20], 21), ([0, 1, 2, 3, 4, 5, 6, 7, 8, 9, 10, 11, 12, 13, 14, 15, 16, 17, 18, 19, 20, 21], 22), ([0, 1, 2, 3, 4, 5, 6, 7, 8, 9, 10, 11, 12, 13, 14, 15, 16, 17, 18, 19, 20, 21, 22], 23), ([0, 1, 2, 3, 4, 5, 6, 7, 8, 9, 10, 11, 12, 13, 14, 15, 16, 17, 18, 19, 20, 21, 22, 23], 24), ([0, 1, 2, 3, 4, 5, 6, 7, 8, 9, 10, 11, 12, 13, 14, 15, 16, 17, 18, 19, 20, 21, 22, 23, 24], 25), ([0, 1, 2, 3, 4, 5, 6, 7, 8, 9, 10, 11, 12, 13, 14, 15, 16, 17, 18, 19, 20, 21, 22, 23, 24, 25], 26)] 22 (by decide +kernel) ?_; simp [hll,h9]))
      refine C_mhead ?_
      repeat (first | (rw [afterRF_ret]; simp [hll,h9]) | with_reducible apply_assumption -exfalso -symm)
      refine T_seqkk [0, 1, 2, 3, 9] [(0, .lit (is l)), (1, u8s b), (2, .int .u16 at0), (3, .int .u8 by0.toNat), (9, .bool true)] [] (fun K hK => ?_) ?_
      · repeat (first | (refine T_seqk fun K hK => ?_) | (refine T_reg tOK rfl ?_; simp [hll,hbl,h9,h10,Fr.keep]) | (refine T_ret ?_; try simp) | (refine T_skip ?_; try simp) | (refine T_blockk fun K hK => ?_) | (with_reducible apply_assumption -exfalso -symm) | (rw [afterRF_ret]; simp [hll,hbl,h9,h10,Fr.keep]) | (refine T_exit ?_; try simp) | (refine T_cond_t ?_ ?_; · (simp; done)) | (refine T_cond_f ?_ ?_; · (simp; done)) | (rintro _ _ (_ | _) hz9 <;> first | (simp; done) | (simp at hz9; done)) | (refine And.intro ?_ ?_) | (simp only [Post.block_ret, Post.block_exit, Post.block_normal, Post.block_pan, Post.seq_ret, Post.seq_exit, Post.seq_normal, Post.seq_pan]; try simp [hll,hbl,h9,h10,Fr.keep]) | (refine T_draw tOK tmix [([], 0), ([0], 1), ([0, 1], 2), ([0, 1, 2], 3), ([0, 1, 2, 3], 4), ([0, 1, 2, 3, 4], 5), ([0, 1, 2, 3, 4, 5], 6), ([0, 1, 2, 3, 4, 5, 6], 7), ([0, 1, 2, 3, 4, 5, 6, 7], 8), ([0, 1, 2, 3, 4, 5, 6, 7, 8], 9), ([0, 1, 2, 3, 4, 5, 6, 7, 8, 9], 10), ([0, 1, 2, 3, 4, 5, 6, 7, 8, 9, 10], 11), ([0, 1, 2, 3, 4, 5, 6, 7, 8, 9, 10, 11], 12), ([0, 1, 2, 3, 4, 5, 6, 7, 8, 9, 10, 11, 12], 13), ([0, 1, 2, 3, 4, 5, 6, 7, 8, 9, 10, 11, 12, 13], 14), ([0, 1, 2, 3, 4, 5, 6, 7, 8, 9, 10, 11, 12, 13, 14], 15), ([0, 1, 2, 3, 4, 5, 6, 7, 8, 9, 10, 11, 12, 13, 14, 15], 16), ([0, 1, 2, 3, 4, 5, 6, 7, 8, 9, 10, 11, 12, 13, 14, 15, 16], 17), ([0, 1, 2, 3, 4, 5, 6, 7, 8, 9, 10, 11, 12, 13, 14, 15, 16, 17], 18), ([0, 1, 2, 3, 4, 5, 6, 7, 8, 9, 10, 11, 12, 13, 14, 15, 16, 17, 18], 19), ([0, 1, 2, 3, 4, 5, 6, 7, 8, 9, 10, 11, 12, 13, 14, 15, 16], 20), ([0, 1, 2, 3, 4, 5, 6, 7, 8, 9, 10, 11, 12, 13, 14, 15, 16, 20], 21), ([0, 1, 2, 3, 4, 5, 6, 7, 8, 9, 10, 11, 12, 13, 14, 15, 16, 17, 18, 19, 20, 21], 22), ([0, 1, 2, 3, 4, 5, 6, 7, 8, 9, 10, 11, 12, 13, 14, 15, 16, 17, 18, 19, 20, 21, 22], 23), ([0, 1, 2, 3, 4, 5, 6, 7, 8, 9, 10, 11, 12, 13, 14, 15, 16, 17, 18, 19, 20, 21, 22, 23], 24), ([0, 1, 2, 3, 4, 5, 6, 7, 8, 9, 10, 11, 12, 13, 14, 15, 16, 17, 18, 19, 20, 21, 22, 23, 24], 25), ([0, 1, 2, 3, 4, 5, 6, 7, 8, 9, 10, 11, 12, 13, 14, 15, 16, 17, 18, 19, 20, 21, 22, 23, 24, 25], 26)] 22 (by decide +kernel) ?_; simp [hll,hbl,h9,h10,Fr.keep]))
      repeat (first | (refine T_seqk fun K hK => ?_) | (refine T_reg tOK rfl ?_; simp) | (refine T_ret ?_; try simp) | (refine T_skip ?_; try simp) | (refine T_blockk fun K hK => ?_) | (with_reducible apply_assumption -exfalso -symm) | (rw [afterRF_ret]; simp) | (refine T_exit ?_; try simp) | (refine T_cond_t ?_ ?_; · (simp; done)) | (refine T_cond_f ?_ ?_; · (simp; done)) | (rintro _ _ (_ | _) hz9 <;> first | (simp; done) | (simp at hz9; done)) | (refine And.intro ?_ ?_) | (simp only [Post.block_ret, Post.block_exit, Post.block_normal, Post.block_pan, Post.seq_ret, Post.seq_exit, Post.seq_normal, Post.seq_pan]; try simp) | (refine T_loop (TL_round ?_)) | (refine TL_round ?_) | (refine T_draw tOK tmix [([], 0), ([0], 1), ([0, 1], 2), ([0, 1, 2], 3), ([0, 1, 2, 3], 4), ([0, 1, 2, 3, 4], 5), ([0, 1, 2, 3, 4, 5], 6), ([0, 1, 2, 3, 4, 5, 6], 7), ([0, 1, 2, 3, 4, 5, 6, 7], 8), ([0, 1, 2, 3, 4, 5, 6, 7, 8], 9), ([0, 1, 2, 3, 4, 5, 6, 7, 8, 9], 10), ([0, 1, 2, 3, 4, 5, 6, 7, 8, 9, 10], 11), ([0, 1, 2, 3, 4, 5, 6, 7, 8, 9, 10, 11], 12), ([0, 1, 2, 3, 4, 5, 6, 7, 8, 9, 10, 11, 12], 13), ([0, 1, 2, 3, 4, 5, 6, 7, 8, 9, 10, 11, 12, 13], 14), ([0, 1, 2, 3, 4, 5, 6, 7, 8, 9, 10, 11, 12, 13, 14], 15), ([0, 1, 2, 3, 4, 5, 6, 7, 8, 9, 10, 11, 12, 13, 14, 15], 16), ([0, 1, 2, 3, 4, 5, 6, 7, 8, 9, 10, 11, 12, 13, 14, 15, 16], 17), ([0, 1, 2, 3, 4, 5, 6, 7, 8, 9, 10, 11, 12, 13, 14, 15, 16, 17], 18), ([0, 1, 2, 3, 4, 5, 6, 7, 8, 9, 10, 11, 12, 13, 14, 15, 16, 17, 18], 19), ([0, 1, 2, 3, 4, 5, 6, 7, 8, 9, 10, 11, 12, 13, 14, 15, 16], 20), ([0, 1, 2, 3, 4, 5, 6, 7, 8, 9, 10, 11, 12, 13, 14, 15, 16, 20], 21), ([0, 1, 2, 3, 4, 5, 6, 7, 8, 9, 10, 11, 12, 13, 14, 15, 16, 17, 18, 19, 20, 21], 22), ([0, 1, 2, 3, 4, 5, 6, 7, 8, 9, 10, 11, 12, 13, 14, 15, 16, 17, 18, 19, 20, 21, 22], 23), ([0, 1, 2, 3, 4, 5, 6, 7, 8, 9, 10, 11, 12, 13, 14, 15, 16, 17, 18, 19, 20, 21, 22, 23], 24), ([0, 1, 2, 3, 4, 5, 6, 7, 8, 9, 10, 11, 12, 13, 14, 15, 16, 17, 18, 19, 20, 21, 22, 23, 24], 25), ([0, 1, 2, 3, 4, 5, 6, 7, 8, 9, 10, 11, 12, 13, 14, 15, 16, 17, 18, 19, 20, 21, 22, 23, 24, 25], 26)] 22 (by decide +kernel) ?_; simp))
      refine C_put (by omega) ?_
      obtain ⟨P, hP⟩ : ∃ P, manPut l = P := ⟨_, rfl⟩
      have hPl := u8l_len P
      rw [hP]
      repeat (first | (rw [afterRF_ret]; simp [hPl]) | with_reducible apply_assumption -exfalso -symm)
      have hpos : decide (0 < P.length) = okL l := by
        have := manPut_pos (l := l)
        rw [hP] at this
        cases hk : okL l with
        | true => rw [hk] at this; simp at this; simp; omega
        | false => rw [hk] at this; simp at this; simp [this]
      refine T_seqkk [0, 1, 2, 3, 9, 10] [(0, .lit (is l)), (1, u8s b), (2, .int .u16 at0), (3, .int .u8 by0.toNat), (9, .bool true), (10, u8s P)] [] (fun K hK => ?_) ?_
      · repeat (first | (refine T_seqk fun K hK => ?_) | (refine T_reg tOK rfl ?_; simp [hPl,hpos]) | (refine T_ret ?_; try simp) | (refine T_skip ?_; try simp) | (refine T_blockk fun K hK => ?_) | (with_reducible apply_assumption -exfalso -symm) | (rw [afterRF_ret]; simp [hPl,hpos]) | (refine T_exit ?_; try simp) | (refine T_cond_t ?_ ?_; · (simp; done)) | (refine T_cond_f ?_ ?_; · (simp; done)) | (rintro _ _ (_ | _) hz9 <;> first | (simp; done) | (simp at hz9; done)) | (refine And.intro ?_ ?_) | (simp only [Post.block_ret, Post.block_exit, Post.block_normal, Post.block_pan, Post.seq_ret, Post.seq_exit, Post.seq_normal, Post.seq_pan]; try simp [hPl,hpos]) | (refine T_loop (TL_round ?_)) | (refine TL_round ?_) | (refine T_draw tOK tmix [([], 0), ([0], 1), ([0, 1], 2), ([0, 1, 2], 3), ([0, 1, 2, 3], 4), ([0, 1, 2, 3, 4], 5), ([0, 1, 2, 3, 4, 5], 6), ([0, 1, 2, 3, 4, 5, 6], 7), ([0, 1, 2, 3, 4, 5, 6, 7], 8), ([0, 1, 2, 3, 4, 5, 6, 7, 8], 9), ([0, 1, 2, 3, 4, 5, 6, 7, 8, 9], 10), ([0, 1, 2, 3, 4, 5, 6, 7, 8, 9, 10], 11), ([0, 1, 2, 3, 4, 5, 6, 7, 8, 9, 10, 11], 12), ([0, 1, 2, 3, 4, 5, 6, 7, 8, 9, 10, 11, 12], 13), ([0, 1, 2, 3, 4, 5, 6, 7, 8, 9, 10, 11, 12, 13], 14), ([0, 1, 2, 3, 4, 5, 6, 7, 8, 9, 10, 11, 12, 13, 14], 15), ([0, 1, 2, 3, 4, 5, 6, 7, 8, 9, 10, 11, 12, 13, 14, 15], 16), ([0, 1, 2, 3, 4, 5, 6, 7, 8, 9, 10, 11, 12, 13, 14, 15, 16], 17), ([0, 1, 2, 3, 4, 5, 6, 7, 8, 9, 10, 11, 12, 13, 14, 15, 16, 17], 18), ([0, 1, 2, 3, 4, 5, 6, 7, 8, 9, 10, 11, 12, 13, 14, 15, 16, 17, 18], 19), ([0, 1, 2, 3, 4, 5, 6, 7, 8, 9, 10, 11, 12, 13, 14, 15, 16], 20), ([0, 1, 2, 3, 4, 5, 6, 7, 8, 9, 10, 11, 12, 13, 14, 15, 16, 20], 21), ([0, 1, 2, 3, 4, 5, 6, 7, 8, 9, 10, 11, 12, 13, 14, 15, 16, 17, 18, 19, 20, 21], 22), ([0, 1, 2, 3, 4, 5, 6, 7, 8, 9, 10, 11, 12, 13, 14, 15, 16, 17, 18, 19, 20, 21, 22], 23), ([0, 1, 2, 3, 4, 5, 6, 7, 8, 9, 10, 11, 12, 13, 14, 15, 16, 17, 18, 19, 20, 21, 22, 23], 24), ([0, 1, 2, 3, 4, 5, 6, 7, 8, 9, 10, 11, 12, 13, 14, 15, 16, 17, 18, 19, 20, 21, 22, 23, 24], 25), ([0, 1, 2, 3, 4, 5, 6, 7, 8, 9, 10, 11, 12, 13, 14, 15, 16, 17, 18, 19, 20, 21, 22, 23, 24, 25], 26)] 22 (by decide +kernel) ?_; simp [hPl,hpos]))
        refine C_right (by omega) ?_
        repeat (first | (rw [afterRF_ret]; simp [hPl,hpos]) | with_reducible apply_assumption -exfalso -symm)
        repeat (first | (refine T_seqk fun K hK => ?_) | (refine T_reg tOK rfl ?_; simp [hPl,hpos,Fr.keep]) | (refine T_ret ?_; try simp) | (refine T_skip ?_; try simp) | (refine T_blockk fun K hK => ?_) | (with_reducible apply_assumption -exfalso -symm) | (rw [afterRF_ret]; simp [hPl,hpos,Fr.keep]) | (refine T_exit ?_; try simp) | (refine T_cond_t ?_ ?_; · (simp; done)) | (refine T_cond_f ?_ ?_; · (simp; done)) | (rintro _ _ (_ | _) hz9 <;> first | (simp; done) | (simp at hz9; done)) | (refine And.intro ?_ ?_) | (simp only [Post.block_ret, Post.block_exit, Post.block_normal, Post.block_pan, Post.seq_ret, Post.seq_exit, Post.seq_normal, Post.seq_pan]; try simp [hPl,hpos,Fr.keep]) | (refine T_draw tOK tmix [([], 0), ([0], 1), ([0, 1], 2), ([0, 1, 2], 3), ([0, 1, 2, 3], 4), ([0, 1, 2, 3, 4], 5), ([0, 1, 2, 3, 4, 5], 6), ([0, 1, 2, 3, 4, 5, 6], 7), ([0, 1, 2, 3, 4, 5, 6, 7], 8), ([0, 1, 2, 3, 4, 5, 6, 7, 8], 9), ([0, 1, 2, 3, 4, 5, 6, 7, 8, 9], 10), ([0, 1, 2, 3, 4, 5, 6, 7, 8, 9, 10], 11), ([0, 1, 2, 3, 4, 5, 6, 7, 8, 9, 10, 11], 12), ([0, 1, 2, 3, 4, 5, 6, 7, 8, 9, 10, 11, 12], 13), ([0, 1, 2, 3, 4, 5, 6, 7, 8, 9, 10, 11, 12, 13], 14), ([0, 1, 2, 3, 4, 5, 6, 7, 8, 9, 10, 11, 12, 13, 14], 15), ([0, 1, 2, 3, 4, 5, 6, 7, 8, 9, 10, 11, 12, 13, 14, 15], 16), ([0, 1, 2, 3, 4, 5, 6, 7, 8, 9, 10, 11, 12, 13, 14, 15, 16], 17), ([0, 1, 2, 3, 4, 5, 6, 7, 8, 9, 10, 11, 12, 13, 14, 15, 16, 17], 18), ([0, 1, 2, 3, 4, 5, 6, 7, 8, 9, 10, 11, 12, 13, 14, 15, 16, 17, 18], 19), ([0, 1, 2, 3, 4, 5, 6, 7, 8, 9, 10, 11, 12, 13, 14, 15, 16], 20), ([0, 1, 2, 3, 4, 5, 6, 7, 8, 9, 10, 11, 12, 13, 14, 15, 16, 20], 21), ([0, 1, 2, 3, 4, 5, 6, 7, 8, 9, 10, 11, 12, 13, 14, 15, 16, 17, 18, 19, 20, 21], 22), ([0, 1, 2, 3, 4, 5, 6, 7, 8, 9, 10, 11, 12, 13, 14, 15, 16, 17, 18, 19, 20, 21, 22], 23), ([0, 1, 2, 3, 4, 5, 6, 7, 8, 9, 10, 11, 12, 13, 14, 15, 16, 17, 18, 19, 20, 21, 22, 23], 24), ([0, 1, 2, 3, 4, 5, 6, 7, 8, 9, 10, 11, 12, 13, 14, 15, 16, 17, 18, 19, 20, 21, 22, 23, 24], 25), ([0, 1, 2, 3, 4, 5, 6, 7, 8, 9, 10, 11, 12, 13, 14, 15, 16, 17, 18, 19, 20, 21, 22, 23, 24, 25], 26)] 22 (by decide +kernel) ?_; simp [hPl,hpos,Fr.keep]))
      refine T_seqkf 0 [1, 9] [(1, u8s b), (9, .bool true)] [] (by simp) (by simp [belowFr, belowB, belowL_of_pure 0 _ (pureL_u8 b)]) rfl (fun K hK => ?_) ?_
      · cases hok : okL l with
        | false =>
          rw [hok] at hpos
          repeat (first | (refine T_seqk fun K hK => ?_) | (refine T_reg tOK rfl ?_; simp [hPl,hpos,Fr.keep]) | (refine T_ret ?_; try simp) | (refine T_skip ?_; try simp) | (refine T_blockk fun K hK => ?_) | (with_reducible apply_assumption -exfalso -symm) | (rw [afterRF_ret]; simp [hPl,hpos,Fr.keep]) | (refine T_exit ?_; try simp) | (refine T_cond_t ?_ ?_; · (simp; done)) | (refine T_cond_f ?_ ?_; · (simp; done)) | (rintro _ _ (_ | _) hz9 <;> first | (simp; done) | (simp at hz9; done)) | (refine And.intro ?_ ?_) | (simp only [Post.block_ret, Post.block_exit, Post.block_normal, Post.block_pan, Post.seq_ret, Post.seq_exit, Post.seq_normal, Post.seq_pan]; try simp [hPl,hpos,Fr.keep]) | (refine T_draw tOK tmix [([], 0), ([0], 1), ([0, 1], 2), ([0, 1, 2], 3), ([0, 1, 2, 3], 4), ([0, 1, 2, 3, 4], 5), ([0, 1, 2, 3, 4, 5], 6), ([0, 1, 2, 3, 4, 5, 6], 7), ([0, 1, 2, 3, 4, 5, 6, 7], 8), ([0, 1, 2, 3, 4, 5, 6, 7, 8], 9), ([0, 1, 2, 3, 4, 5, 6, 7, 8, 9], 10), ([0, 1, 2, 3, 4, 5, 6, 7, 8, 9, 10], 11), ([0, 1, 2, 3, 4, 5, 6, 7, 8, 9, 10, 11], 12), ([0, 1, 2, 3, 4, 5, 6, 7, 8, 9, 10, 11, 12], 13), ([0, 1, 2, 3, 4, 5, 6, 7, 8, 9, 10, 11, 12, 13], 14), ([0, 1, 2, 3, 4, 5, 6, 7, 8, 9, 10, 11, 12, 13, 14], 15), ([0, 1, 2, 3, 4, 5, 6, 7, 8, 9, 10, 11, 12, 13, 14, 15], 16), ([0, 1, 2, 3, 4, 5, 6, 7, 8, 9, 10, 11, 12, 13, 14, 15, 16], 17), ([0, 1, 2, 3, 4, 5, 6, 7, 8, 9, 10, 11, 12, 13, 14, 15, 16, 17], 18), ([0, 1, 2, 3, 4, 5, 6, 7, 8, 9, 10, 11, 12, 13, 14, 15, 16, 17, 18], 19), ([0, 1, 2, 3, 4, 5, 6, 7, 8, 9, 10, 11, 12, 13, 14, 15, 16], 20), ([0, 1, 2, 3, 4, 5, 6, 7, 8, 9, 10, 11, 12, 13, 14, 15, 16, 20], 21), ([0, 1, 2, 3, 4, 5, 6, 7, 8, 9, 10, 11, 12, 13, 14, 15, 16, 17, 18, 19, 20, 21], 22), ([0, 1, 2, 3, 4, 5, 6, 7, 8, 9, 10, 11, 12, 13, 14, 15, 16, 17, 18, 19, 20, 21, 22], 23), ([0, 1, 2, 3, 4, 5, 6, 7, 8, 9, 10, 11, 12, 13, 14, 15, 16, 17, 18, 19, 20, 21, 22, 23], 24), ([0, 1, 2, 3, 4, 5, 6, 7, 8, 9, 10, 11, 12, 13, 14, 15, 16, 17, 18, 19, 20, 21, 22, 23, 24], 25), ([0, 1, 2, 3, 4, 5, 6, 7, 8, 9, 10, 11, 12, 13, 14, 15, 16, 17, 18, 19, 20, 21, 22, 23, 24, 25], 26)] 22 (by decide +kernel) ?_; simp [hPl,hpos,Fr.keep]))
        | true =>
          rw [hok] at hpos
          have hP5 : P.length = 5 + 4 * l.length := by rw [← hP]; exact manPut_len hok
          have hl4 : l.length ≤ 40 := (okL_facts hok).2.1
          have hg1 : manGet P = (l, 0) := by rw [← hP]; exact manGet_put hok
          have hg2 : manGet (P ++ [by0]) = ([], 12) := by rw [← hP]; exact manGet_more hok by0
          have hcat : u8l P ++ [.int .u8 by0.toNat] = u8l (P ++ [by0]) := by simp [u8l]
          obtain ⟨k, hk⟩ : ∃ k, at0 % P.length = k := ⟨_, rfl⟩
          have hkP : k < P.length := by rw [← hk]; exact Nat.mod_lt _ (by omega)
          have wa : IntKind.i64.wrap (at0 : Int) = at0 := IntWalk.i64_in _ (by omega)
          have wt : (at0 : Int).tmod (P.length : Int) = (k : Int) := by rw [← hk]; rfl
          have hPn : ¬ P = [] := fun e => by
            have h1 : 0 < P.length := by omega
            rw [e] at h1; simp at h1
          have q6 : 2 * P.length ≤ 281474976709656 := by omega
          have q7 : 2 * (P.length + 1) ≤ 281474976709656 := by omega
          repeat (first | (refine T_seqk fun K hK => ?_) | (refine T_reg tOK rfl ?_; simp [hPl,hpos]) | (refine T_ret ?_; try simp) | (refine T_skip ?_; try simp) | (refine T_blockk fun K hK => ?_) | (with_reducible apply_assumption -exfalso -symm) | (rw [afterRF_ret]; simp [hPl,hpos]) | (refine T_exit ?_; try simp) | (refine T_cond_t ?_ ?_; · (simp; done)) | (refine T_cond_f ?_ ?_; · (simp; done)) | (rintro _ _ (_ | _) hz9 <;> first | (simp; done) | (simp at hz9; done)) | (refine And.intro ?_ ?_) | (simp only [Post.block_ret, Post.block_exit, Post.block_normal, Post.block_pan, Post.seq_ret, Post.seq_exit, Post.seq_normal, Post.seq_pan]; try simp [hPl,hpos]) | (refine T_draw tOK tmix [([], 0), ([0], 1), ([0, 1], 2), ([0, 1, 2], 3), ([0, 1, 2, 3], 4), ([0, 1, 2, 3, 4], 5), ([0, 1, 2, 3, 4, 5], 6), ([0, 1, 2, 3, 4, 5, 6], 7), ([0, 1, 2, 3, 4, 5, 6, 7], 8), ([0, 1, 2, 3, 4, 5, 6, 7, 8], 9), ([0, 1, 2, 3, 4, 5, 6, 7, 8, 9], 10), ([0, 1, 2, 3, 4, 5, 6, 7, 8, 9, 10], 11), ([0, 1, 2, 3, 4, 5, 6, 7, 8, 9, 10, 11], 12), ([0, 1, 2, 3, 4, 5, 6, 7, 8, 9, 10, 11, 12], 13), ([0, 1, 2, 3, 4, 5, 6, 7, 8, 9, 10, 11, 12, 13], 14), ([0, 1, 2, 3, 4, 5, 6, 7, 8, 9, 10, 11, 12, 13, 14], 15), ([0, 1, 2, 3, 4, 5, 6, 7, 8, 9, 10, 11, 12, 13, 14, 15], 16), ([0, 1, 2, 3, 4, 5, 6, 7, 8, 9, 10, 11, 12, 13, 14, 15, 16], 17), ([0, 1, 2, 3, 4, 5, 6, 7, 8, 9, 10, 11, 12, 13, 14, 15, 16, 17], 18), ([0, 1, 2, 3, 4, 5, 6, 7, 8, 9, 10, 11, 12, 13, 14, 15, 16, 17, 18], 19), ([0, 1, 2, 3, 4, 5, 6, 7, 8, 9, 10, 11, 12, 13, 14, 15, 16], 20), ([0, 1, 2, 3, 4, 5, 6, 7, 8, 9, 10, 11, 12, 13, 14, 15, 16, 20], 21), ([0, 1, 2, 3, 4, 5, 6, 7, 8, 9, 10, 11, 12, 13, 14, 15, 16, 17, 18, 19, 20, 21], 22), ([0, 1, 2, 3, 4, 5, 6, 7, 8, 9, 10, 11, 12, 13, 14, 15, 16, 17, 18, 19, 20, 21, 22], 23), ([0, 1, 2, 3, 4, 5, 6, 7, 8, 9, 10, 11, 12, 13, 14, 15, 16, 17, 18, 19, 20, 21, 22, 23], 24), ([0, 1, 2, 3, 4, 5, 6, 7, 8, 9, 10, 11, 12, 13, 14, 15, 16, 17, 18, 19, 20, 21, 22, 23, 24], 25), ([0, 1, 2, 3, 4, 5, 6, 7, 8, 9, 10, 11, 12, 13, 14, 15, 16, 17, 18, 19, 20, 21, 22, 23, 24, 25], 26)] 22 (by decide +kernel) ?_; simp [hPl,hpos]))
          refine C_get (by omega) ?_
          rw [hg1]
          repeat (first | (rw [afterRF_ret]; simp ) | with_reducible apply_assumption -exfalso -symm)
          repeat (first | (refine T_seqk fun K hK => ?_) | (refine T_reg tOK rfl ?_; simp [hPl,all_u8l,q6,q7]) | (refine T_ret ?_; try simp) | (refine T_skip ?_; try simp) | (refine T_blockk fun K hK => ?_) | (with_reducible apply_assumption -exfalso -symm) | (rw [afterRF_ret]; simp [hPl,all_u8l,q6,q7]) | (refine T_exit ?_; try simp) | (refine T_cond_t ?_ ?_; · (simp; done)) | (refine T_cond_f ?_ ?_; · (simp; done)) | (rintro _ _ (_ | _) hz9 <;> first | (simp; done) | (simp at hz9; done)) | (refine And.intro ?_ ?_) | (simp only [Post.block_ret, Post.block_exit, Post.block_normal, Post.block_pan, Post.seq_ret, Post.seq_exit, Post.seq_normal, Post.seq_pan]; try simp [hPl,all_u8l,q6,q7]) | (refine T_draw tOK tmix [([], 0), ([0], 1), ([0, 1], 2), ([0, 1, 2], 3), ([0, 1, 2, 3], 4), ([0, 1, 2, 3, 4], 5), ([0, 1, 2, 3, 4, 5], 6), ([0, 1, 2, 3, 4, 5, 6], 7), ([0, 1, 2, 3, 4, 5, 6, 7], 8), ([0, 1, 2, 3, 4, 5, 6, 7, 8], 9), ([0, 1, 2, 3, 4, 5, 6, 7, 8, 9], 10), ([0, 1, 2, 3, 4, 5, 6, 7, 8, 9, 10], 11), ([0, 1, 2, 3, 4, 5, 6, 7, 8, 9, 10, 11], 12), ([0, 1, 2, 3, 4, 5, 6, 7, 8, 9, 10, 11, 12], 13), ([0, 1, 2, 3, 4, 5, 6, 7, 8, 9, 10, 11, 12, 13], 14), ([0, 1, 2, 3, 4, 5, 6, 7, 8, 9, 10, 11, 12, 13, 14], 15), ([0, 1, 2, 3, 4, 5, 6, 7, 8, 9, 10, 11, 12, 13, 14, 15], 16), ([0, 1, 2, 3, 4, 5, 6, 7, 8, 9, 10, 11, 12, 13, 14, 15, 16], 17), ([0, 1, 2, 3, 4, 5, 6, 7, 8, 9, 10, 11, 12, 13, 14, 15, 16, 17], 18), ([0, 1, 2, 3, 4, 5, 6, 7, 8, 9, 10, 11, 12, 13, 14, 15, 16, 17, 18], 19), ([0, 1, 2, 3, 4, 5, 6, 7, 8, 9, 10, 11, 12, 13, 14, 15, 16], 20), ([0, 1, 2, 3, 4, 5, 6, 7, 8, 9, 10, 11, 12, 13, 14, 15, 16, 20], 21), ([0, 1, 2, 3, 4, 5, 6, 7, 8, 9, 10, 11, 12, 13, 14, 15, 16, 17, 18, 19, 20, 21], 22), ([0, 1, 2, 3, 4, 5, 6, 7, 8, 9, 10, 11, 12, 13, 14, 15, 16, 17, 18, 19, 20, 21, 22], 23), ([0, 1, 2, 3, 4, 5, 6, 7, 8, 9, 10, 11, 12, 13, 14, 15, 16, 17, 18, 19, 20, 21, 22, 23], 24), ([0, 1, 2, 3, 4, 5, 6, 7, 8, 9, 10, 11, 12, 13, 14, 15, 16, 17, 18, 19, 20, 21, 22, 23, 24], 25), ([0, 1, 2, 3, 4, 5, 6, 7, 8, 9, 10, 11, 12, 13, 14, 15, 16, 17, 18, 19, 20, 21, 22, 23, 24, 25], 26)] 22 (by decide +kernel) ?_; simp [hPl,all_u8l,q6,q7]))
          have htP : (u8l P).take P.length = u8l P := by rw [← hPl, List.take_length]
          rw [htP, hcat]
          refine C_get_ref rfl (by simp) (by simp; omega) ?_
          rw [hg2]
          have hgk : (u8l P)[k]? = some (.int .u8 P[k].toNat) := by simp [u8l, hkP]
          have hkl : k < (u8l P).length := by omega
          have hgk' := get_of hgk hkl
          repeat (first | (rw [afterRF_ret]; simp ) | with_reducible apply_assumption -exfalso -symm)
          repeat (first | (refine T_seqk fun K hK => ?_) | (refine T_reg tOK rfl ?_; simp [hPl,hpos,all_u8l,q6,hPn,wa,wt,hkP,hgk,hgk',hkl]) | (refine T_ret ?_; try simp) | (refine T_skip ?_; try simp) | (refine T_blockk fun K hK => ?_) | (with_reducible apply_assumption -exfalso -symm) | (rw [afterRF_ret]; simp [hPl,hpos,all_u8l,q6,hPn,wa,wt,hkP,hgk,hgk',hkl]) | (refine T_exit ?_; try simp) | (refine T_cond_t ?_ ?_; · (simp; done)) | (refine T_cond_f ?_ ?_; · (simp; done)) | (rintro _ _ (_ | _) hz9 <;> first | (simp; done) | (simp at hz9; done)) | (refine And.intro ?_ ?_) | (simp only [Post.block_ret, Post.block_exit, Post.block_normal, Post.block_pan, Post.seq_ret, Post.seq_exit, Post.seq_normal, Post.seq_pan]; try simp [hPl,hpos,all_u8l,q6,hPn,wa,wt,hkP,hgk,hgk',hkl]) | (refine T_draw tOK tmix [([], 0), ([0], 1), ([0, 1], 2), ([0, 1, 2], 3), ([0, 1, 2, 3], 4), ([0, 1, 2, 3, 4], 5), ([0, 1, 2, 3, 4, 5], 6), ([0, 1, 2, 3, 4, 5, 6], 7), ([0, 1, 2, 3, 4, 5, 6, 7], 8), ([0, 1, 2, 3, 4, 5, 6, 7, 8], 9), ([0, 1, 2, 3, 4, 5, 6, 7, 8, 9], 10), ([0, 1, 2, 3, 4, 5, 6, 7, 8, 9, 10], 11), ([0, 1, 2, 3, 4, 5, 6, 7, 8, 9, 10, 11], 12), ([0, 1, 2, 3, 4, 5, 6, 7, 8, 9, 10, 11, 12], 13), ([0, 1, 2, 3, 4, 5, 6, 7, 8, 9, 10, 11, 12, 13], 14), ([0, 1, 2, 3, 4, 5, 6, 7, 8, 9, 10, 11, 12, 13, 14], 15), ([0, 1, 2, 3, 4, 5, 6, 7, 8, 9, 10, 11, 12, 13, 14, 15], 16), ([0, 1, 2, 3, 4, 5, 6, 7, 8, 9, 10, 11, 12, 13, 14, 15, 16], 17), ([0, 1, 2, 3, 4, 5, 6, 7, 8, 9, 10, 11, 12, 13, 14, 15, 16, 17], 18), ([0, 1, 2, 3, 4, 5, 6, 7, 8, 9, 10, 11, 12, 13, 14, 15, 16, 17, 18], 19), ([0, 1, 2, 3, 4, 5, 6, 7, 8, 9, 10, 11, 12, 13, 14, 15, 16], 20), ([0, 1, 2, 3, 4, 5, 6, 7, 8, 9, 10, 11, 12, 13, 14, 15, 16, 20], 21), ([0, 1, 2, 3, 4, 5, 6, 7, 8, 9, 10, 11, 12, 13, 14, 15, 16, 17, 18, 19, 20, 21], 22), ([0, 1, 2, 3, 4, 5, 6, 7, 8, 9, 10, 11, 12, 13, 14, 15, 16, 17, 18, 19, 20, 21, 22], 23), ([0, 1, 2, 3, 4, 5, 6, 7, 8, 9, 10, 11, 12, 13, 14, 15, 16, 17, 18, 19, 20, 21, 22, 23], 24), ([0, 1, 2, 3, 4, 5, 6, 7, 8, 9, 10, 11, 12, 13, 14, 15, 16, 17, 18, 19, 20, 21, 22, 23, 24], 25), ([0, 1, 2, 3, 4, 5, 6, 7, 8, 9, 10, 11, 12, 13, 14, 15, 16, 17, 18, 19, 20, 21, 22, 23, 24, 25], 26)] 22 (by decide +kernel) ?_; simp [hPl,hpos,all_u8l,q6,hPn,wa,wt,hkP,hgk,hgk',hkl]))
          have hset : (u8l P).set k (.int .u8 (bits .xor .u8 P[k].toNat by0.toNat)) = u8l (P.set k (UInt8.ofNat (P[k].toNat ^^^ by0.toNat))) := by
            have h1 := P[k].toNat_lt
            have h2 := by0.toNat_lt
            have hx : P[k].toNat ^^^ by0.toNat < 256 := Nat.xor_lt_two_pow (n := 8) (by omega) (by omega)
            rw [xor8 (by omega) (by omega)]
            simp only [u8l, List.map_set]
            congr 2
            rw [ofNat_of hx]
          rw [hset]
          refine C_get_ref rfl (by simp) (by simp; omega) ?_
          have hz : by0 ≠ 0 → (manGet (P.set k (UInt8.ofNat (P[k].toNat ^^^ by0.toNat)))).2 ≠ 0 := by
            intro hne
            subst hP
            refine manGet_turn hok hkP fun e => hne ?_
            have h1 := (manPut l)[k].toNat_lt
            have h2 := by0.toNat_lt
            have hx : (manPut l)[k].toNat ^^^ by0.toNat < 256 := Nat.xor_lt_two_pow (n := 8) (by omega) (by omega)
            have e2 := congrArg UInt8.toNat e
            rw [ofNat_of hx] at e2
            have e3 : by0.toNat = 0 := xor_cancel (a := (manPut l)[k].toNat) (by rw [e2, Nat.xor_zero])
            exact UInt8.toNat_inj.1 e3
          obtain ⟨gz, hgz⟩ : ∃ gz, (manGet (P.set k (UInt8.ofNat (P[k].toNat ^^^ by0.toNat)))).2 = gz := ⟨_, rfl⟩
          rw [hgz] at hz ⊢
          repeat (first | (rw [afterRF_ret]; simp ) | with_reducible apply_assumption -exfalso -symm)
          repeat (first | (refine T_seqk fun K hK => ?_) | (refine T_reg tOK rfl ?_; simp) | (refine T_ret ?_; try simp) | (refine T_skip ?_; try simp) | (refine T_blockk fun K hK => ?_) | (with_reducible apply_assumption -exfalso -symm) | (rw [afterRF_ret]; simp) | (refine T_exit ?_; try simp) | (refine T_cond_t ?_ ?_; · (simp; done)) | (refine T_cond_f ?_ ?_; · (simp; done)) | (rintro _ _ (_ | _) hz9 <;> first | (simp; done) | (simp at hz9; done)) | (refine And.intro ?_ ?_) | (simp only [Post.block_ret, Post.block_exit, Post.block_normal, Post.block_pan, Post.seq_ret, Post.seq_exit, Post.seq_normal, Post.seq_pan]; try simp) | (refine T_loop (TL_round ?_)) | (refine TL_round ?_) | (refine T_draw tOK tmix [([], 0), ([0], 1), ([0, 1], 2), ([0, 1, 2], 3), ([0, 1, 2, 3], 4), ([0, 1, 2, 3, 4], 5), ([0, 1, 2, 3, 4, 5], 6), ([0, 1, 2, 3, 4, 5, 6], 7), ([0, 1, 2, 3, 4, 5, 6, 7], 8), ([0, 1, 2, 3, 4, 5, 6, 7, 8], 9), ([0, 1, 2, 3, 4, 5, 6, 7, 8, 9], 10), ([0, 1, 2, 3, 4, 5, 6, 7, 8, 9, 10], 11), ([0, 1, 2, 3, 4, 5, 6, 7, 8, 9, 10, 11], 12), ([0, 1, 2, 3, 4, 5, 6, 7, 8, 9, 10, 11, 12], 13), ([0, 1, 2, 3, 4, 5, 6, 7, 8, 9, 10, 11, 12, 13], 14), ([0, 1, 2, 3, 4, 5, 6, 7, 8, 9, 10, 11, 12, 13, 14], 15), ([0, 1, 2, 3, 4, 5, 6, 7, 8, 9, 10, 11, 12, 13, 14, 15], 16), ([0, 1, 2, 3, 4, 5, 6, 7, 8, 9, 10, 11, 12, 13, 14, 15, 16], 17), ([0, 1, 2, 3, 4, 5, 6, 7, 8, 9, 10, 11, 12, 13, 14, 15, 16, 17], 18), ([0, 1, 2, 3, 4, 5, 6, 7, 8, 9, 10, 11, 12, 13, 14, 15, 16, 17, 18], 19), ([0, 1, 2, 3, 4, 5, 6, 7, 8, 9, 10, 11, 12, 13, 14, 15, 16], 20), ([0, 1, 2, 3, 4, 5, 6, 7, 8, 9, 10, 11, 12, 13, 14, 15, 16, 20], 21), ([0, 1, 2, 3, 4, 5, 6, 7, 8, 9, 10, 11, 12, 13, 14, 15, 16, 17, 18, 19, 20, 21], 22), ([0, 1, 2, 3, 4, 5, 6, 7, 8, 9, 10, 11, 12, 13, 14, 15, 16, 17, 18, 19, 20, 21, 22], 23), ([0, 1, 2, 3, 4, 5, 6, 7, 8, 9, 10, 11, 12, 13, 14, 15, 16, 17, 18, 19, 20, 21, 22, 23], 24), ([0, 1, 2, 3, 4, 5, 6, 7, 8, 9, 10, 11, 12, 13, 14, 15, 16, 17, 18, 19, 20, 21, 22, 23, 24], 25), ([0, 1, 2, 3, 4, 5, 6, 7, 8, 9, 10, 11, 12, 13, 14, 15, 16, 17, 18, 19, 20, 21, 22, 23, 24, 25], 26)] 22 (by decide +kernel) ?_; simp))
          refine C_samei (by omega) (by omega) ?_
          rw [show (l == l) = true by simp]
          repeat (first | (rw [afterRF_ret]; simp ) | with_reducible apply_assumption -exfalso -symm)
          cases hb0 : ((by0.toNat : Int) != 0) with
          | false =>
            have hbz : by0.toNat = 0 := by simpa using hb0
            repeat (first | (refine T_seqk fun K hK => ?_) | (refine T_reg tOK rfl ?_; simp [hb0,hbz,Fr.keep]) | (refine T_ret ?_; try simp) | (refine T_skip ?_; try simp) | (refine T_blockk fun K hK => ?_) | (with_reducible apply_assumption -exfalso -symm) | (rw [afterRF_ret]; simp [hb0,hbz,Fr.keep]) | (refine T_exit ?_; try simp) | (refine T_cond_t ?_ ?_; · (simp; done)) | (refine T_cond_f ?_ ?_; · (simp; done)) | (rintro _ _ (_ | _) hz9 <;> first | (simp; done) | (simp at hz9; done)) | (refine And.intro ?_ ?_) | (simp only [Post.block_ret, Post.block_exit, Post.block_normal, Post.block_pan, Post.seq_ret, Post.seq_exit, Post.seq_normal, Post.seq_pan]; try simp [hb0,hbz,Fr.keep]) | (refine T_draw tOK tmix [([], 0), ([0], 1), ([0, 1], 2), ([0, 1, 2], 3), ([0, 1, 2, 3], 4), ([0, 1, 2, 3, 4], 5), ([0, 1, 2, 3, 4, 5], 6), ([0, 1, 2, 3, 4, 5, 6], 7), ([0, 1, 2, 3, 4, 5, 6, 7], 8), ([0, 1, 2, 3, 4, 5, 6, 7, 8], 9), ([0, 1, 2, 3, 4, 5, 6, 7, 8, 9], 10), ([0, 1, 2, 3, 4, 5, 6, 7, 8, 9, 10], 11), ([0, 1, 2, 3, 4, 5, 6, 7, 8, 9, 10, 11], 12), ([0, 1, 2, 3, 4, 5, 6, 7, 8, 9, 10, 11, 12], 13), ([0, 1, 2, 3, 4, 5, 6, 7, 8, 9, 10, 11, 12, 13], 14), ([0, 1, 2, 3, 4, 5, 6, 7, 8, 9, 10, 11, 12, 13, 14], 15), ([0, 1, 2, 3, 4, 5, 6, 7, 8, 9, 10, 11, 12, 13, 14, 15], 16), ([0, 1, 2, 3, 4, 5, 6, 7, 8, 9, 10, 11, 12, 13, 14, 15, 16], 17), ([0, 1, 2, 3, 4, 5, 6, 7, 8, 9, 10, 11, 12, 13, 14, 15, 16, 17], 18), ([0, 1, 2, 3, 4, 5, 6, 7, 8, 9, 10, 11, 12, 13, 14, 15, 16, 17, 18], 19), ([0, 1, 2, 3, 4, 5, 6, 7, 8, 9, 10, 11, 12, 13, 14, 15, 16], 20), ([0, 1, 2, 3, 4, 5, 6, 7, 8, 9, 10, 11, 12, 13, 14, 15, 16, 20], 21), ([0, 1, 2, 3, 4, 5, 6, 7, 8, 9, 10, 11, 12, 13, 14, 15, 16, 17, 18, 19, 20, 21], 22), ([0, 1, 2, 3, 4, 5, 6, 7, 8, 9, 10, 11, 12, 13, 14, 15, 16, 17, 18, 19, 20, 21, 22], 23), ([0, 1, 2, 3, 4, 5, 6, 7, 8, 9, 10, 11, 12, 13, 14, 15, 16, 17, 18, 19, 20, 21, 22, 23], 24), ([0, 1, 2, 3, 4, 5, 6, 7, 8, 9, 10, 11, 12, 13, 14, 15, 16, 17, 18, 19, 20, 21, 22, 23, 24], 25), ([0, 1, 2, 3, 4, 5, 6, 7, 8, 9, 10, 11, 12, 13, 14, 15, 16, 17, 18, 19, 20, 21, 22, 23, 24, 25], 26)] 22 (by decide +kernel) ?_; simp [hb0,hbz,Fr.keep]))
          | true =>
            have hbz : ¬ by0.toNat = 0 := by simpa using hb0
            have hg0 : (gz == 0) = false := by
              have : by0 ≠ 0 := by rintro rfl; simp at hb0
              simpa using hz this
            repeat (first | (refine T_seqk fun K hK => ?_) | (refine T_reg tOK rfl ?_; simp [hb0,hbz,hg0,Fr.keep]) | (refine T_ret ?_; try simp) | (refine T_skip ?_; try simp) | (refine T_blockk fun K hK => ?_) | (with_reducible apply_assumption -exfalso -symm) | (rw [afterRF_ret]; simp [hb0,hbz,hg0,Fr.keep]) | (refine T_exit ?_; try simp) | (refine T_cond_t ?_ ?_; · (simp; done)) | (refine T_cond_f ?_ ?_; · (simp; done)) | (rintro _ _ (_ | _) hz9 <;> first | (simp; done) | (simp at hz9; done)) | (refine And.intro ?_ ?_) | (simp only [Post.block_ret, Post.block_exit, Post.block_normal, Post.block_pan, Post.seq_ret, Post.seq_exit, Post.seq_normal, Post.seq_pan]; try simp [hb0,hbz,hg0,Fr.keep]) | (refine T_draw tOK tmix [([], 0), ([0], 1), ([0, 1], 2), ([0, 1, 2], 3), ([0, 1, 2, 3], 4), ([0, 1, 2, 3, 4], 5), ([0, 1, 2, 3, 4, 5], 6), ([0, 1, 2, 3, 4, 5, 6], 7), ([0, 1, 2, 3, 4, 5, 6, 7], 8), ([0, 1, 2, 3, 4, 5, 6, 7, 8], 9), ([0, 1, 2, 3, 4, 5, 6, 7, 8, 9], 10), ([0, 1, 2, 3, 4, 5, 6, 7, 8, 9, 10], 11), ([0, 1, 2, 3, 4, 5, 6, 7, 8, 9, 10, 11], 12), ([0, 1, 2, 3, 4, 5, 6, 7, 8, 9, 10, 11, 12], 13), ([0, 1, 2, 3, 4, 5, 6, 7, 8, 9, 10, 11, 12, 13], 14), ([0, 1, 2, 3, 4, 5, 6, 7, 8, 9, 10, 11, 12, 13, 14], 15), ([0, 1, 2, 3, 4, 5, 6, 7, 8, 9, 10, 11, 12, 13, 14, 15], 16), ([0, 1, 2, 3, 4, 5, 6, 7, 8, 9, 10, 11, 12, 13, 14, 15, 16], 17), ([0, 1, 2, 3, 4, 5, 6, 7, 8, 9, 10, 11, 12, 13, 14, 15, 16, 17], 18), ([0, 1, 2, 3, 4, 5, 6, 7, 8, 9, 10, 11, 12, 13, 14, 15, 16, 17, 18], 19), ([0, 1, 2, 3, 4, 5, 6, 7, 8, 9, 10, 11, 12, 13, 14, 15, 16], 20), ([0, 1, 2, 3, 4, 5, 6, 7, 8, 9, 10, 11, 12, 13, 14, 15, 16, 20], 21), ([0, 1, 2, 3, 4, 5, 6, 7, 8, 9, 10, 11, 12, 13, 14, 15, 16, 17, 18, 19, 20, 21], 22), ([0, 1, 2, 3, 4, 5, 6, 7, 8, 9, 10, 11, 12, 13, 14, 15, 16, 17, 18, 19, 20, 21, 22], 23), ([0, 1, 2, 3, 4, 5, 6, 7, 8, 9, 10, 11, 12, 13, 14, 15, 16, 17, 18, 19, 20, 21, 22, 23], 24), ([0, 1, 2, 3, 4, 5, 6, 7, 8, 9, 10, 11, 12, 13, 14, 15, 16, 17, 18, 19, 20, 21, 22, 23, 24], 25), ([0, 1, 2, 3, 4, 5, 6, 7, 8, 9, 10, 11, 12, 13, 14, 15, 16, 17, 18, 19, 20, 21, 22, 23, 24, 25], 26)] 22 (by decide +kernel) ?_; simp [hb0,hbz,hg0,Fr.keep]))
      repeat (first | (refine T_seqk fun K hK => ?_) | (refine T_reg tOK rfl ?_; simp) | (refine T_ret ?_; try simp) | (refine T_skip ?_; try simp) | (refine T_blockk fun K hK => ?_) | (with_reducible apply_assumption -exfalso -symm) | (rw [afterRF_ret]; simp) | (refine T_exit ?_; try simp) | (refine T_cond_t ?_ ?_; · (simp; done)) | (refine T_cond_f ?_ ?_; · (simp; done)) | (rintro _ _ (_ | _) hz9 <;> first | (simp; done) | (simp at hz9; done)) | (refine And.intro ?_ ?_) | (simp only [Post.block_ret, Post.block_exit, Post.block_normal, Post.block_pan, Post.seq_ret, Post.seq_exit, Post.seq_normal, Post.seq_pan]; try simp) | (refine T_loop (TL_round ?_)) | (refine TL_round ?_) | (refine T_draw tOK tmix [([], 0), ([0], 1), ([0, 1], 2), ([0, 1, 2], 3), ([0, 1, 2, 3], 4), ([0, 1, 2, 3, 4], 5), ([0, 1, 2, 3, 4, 5], 6), ([0, 1, 2, 3, 4, 5, 6], 7), ([0, 1, 2, 3, 4, 5, 6, 7], 8), ([0, 1, 2, 3, 4, 5, 6, 7, 8], 9), ([0, 1, 2, 3, 4, 5, 6, 7, 8, 9], 10), ([0, 1, 2, 3, 4, 5, 6, 7, 8, 9, 10], 11), ([0, 1, 2, 3, 4, 5, 6, 7, 8, 9, 10, 11], 12), ([0, 1, 2, 3, 4, 5, 6, 7, 8, 9, 10, 11, 12], 13), ([0, 1, 2, 3, 4, 5, 6, 7, 8, 9, 10, 11, 12, 13], 14), ([0, 1, 2, 3, 4, 5, 6, 7, 8, 9, 10, 11, 12, 13, 14], 15), ([0, 1, 2, 3, 4, 5, 6, 7, 8, 9, 10, 11, 12, 13, 14, 15], 16), ([0, 1, 2, 3, 4, 5, 6, 7, 8, 9, 10, 11, 12, 13, 14, 15, 16], 17), ([0, 1, 2, 3, 4, 5, 6, 7, 8, 9, 10, 11, 12, 13, 14, 15, 16, 17], 18), ([0, 1, 2, 3, 4, 5, 6, 7, 8, 9, 10, 11, 12, 13, 14, 15, 16, 17, 18], 19), ([0, 1, 2, 3, 4, 5, 6, 7, 8, 9, 10, 11, 12, 13, 14, 15, 16], 20), ([0, 1, 2, 3, 4, 5, 6, 7, 8, 9, 10, 11, 12, 13, 14, 15, 16, 20], 21), ([0, 1, 2, 3, 4, 5, 6, 7, 8, 9, 10, 11, 12, 13, 14, 15, 16, 17, 18, 19, 20, 21], 22), ([0, 1, 2, 3, 4, 5, 6, 7, 8, 9, 10, 11, 12, 13, 14, 15, 16, 17, 18, 19, 20, 21, 22], 23), ([0, 1, 2, 3, 4, 5, 6, 7, 8, 9, 10, 11, 12, 13, 14, 15, 16, 17, 18, 19, 20, 21, 22, 23], 24), ([0, 1, 2, 3, 4, 5, 6, 7, 8, 9, 10, 11, 12, 13, 14, 15, 16, 17, 18, 19, 20, 21, 22, 23, 24], 25), ([0, 1, 2, 3, 4, 5, 6, 7, 8, 9, 10, 11, 12, 13, 14, 15, 16, 17, 18, 19, 20, 21, 22, 23, 24, 25], 26)] 22 (by decide +kernel) ?_; simp))
      refine C_get (by omega) ?_
      obtain ⟨y, hy⟩ : ∃ y, (manGet b).1 = y := ⟨_, rfl⟩
      obtain ⟨g, hg⟩ : ∃ g, (manGet b).2 = g := ⟨_, rfl⟩
      rw [hy, hg]
      have hyl := is_len y
      repeat (first | (rw [afterRF_ret]; simp ) | with_reducible apply_assumption -exfalso -symm)
      refine T_keep [1, 9, 19, 20] ?_
      simp [Fr.keep]
      refine T_seqk fun K hK => ?_
      refine T_draw tOK tmix [([], 0), ([0], 1), ([0, 1], 2), ([0, 1, 2], 3), ([0, 1, 2, 3], 4), ([0, 1, 2, 3, 4], 5), ([0, 1, 2, 3, 4, 5], 6), ([0, 1, 2, 3, 4, 5, 6], 7), ([0, 1, 2, 3, 4, 5, 6, 7], 8), ([0, 1, 2, 3, 4, 5, 6, 7, 8], 9), ([0, 1, 2, 3, 4, 5, 6, 7, 8, 9], 10), ([0, 1, 2, 3, 4, 5, 6, 7, 8, 9, 10], 11), ([0, 1, 2, 3, 4, 5, 6, 7, 8, 9, 10, 11], 12), ([0, 1, 2, 3, 4, 5, 6, 7, 8, 9, 10, 11, 12], 13), ([0, 1, 2, 3, 4, 5, 6, 7, 8, 9, 10, 11, 12, 13], 14), ([0, 1, 2, 3, 4, 5, 6, 7, 8, 9, 10, 11, 12, 13, 14], 15), ([0, 1, 2, 3, 4, 5, 6, 7, 8, 9, 10, 11, 12, 13, 14, 15], 16), ([0, 1, 2, 3, 4, 5, 6, 7, 8, 9, 10, 11, 12, 13, 14, 15, 16], 17), ([0, 1, 2, 3, 4, 5, 6, 7, 8, 9, 10, 11, 12, 13, 14, 15, 16, 17], 18), ([0, 1, 2, 3, 4, 5, 6, 7, 8, 9, 10, 11, 12, 13, 14, 15, 16, 17, 18], 19), ([0, 1, 2, 3, 4, 5, 6, 7, 8, 9, 10, 11, 12, 13, 14, 15, 16], 20), ([0, 1, 2, 3, 4, 5, 6, 7, 8, 9, 10, 11, 12, 13, 14, 15, 16, 20], 21), ([0, 1, 2, 3, 4, 5, 6, 7, 8, 9, 10, 11, 12, 13, 14, 15, 16, 17, 18, 19, 20, 21], 22), ([0, 1, 2, 3, 4, 5, 6, 7, 8, 9, 10, 11, 12, 13, 14, 15, 16, 17, 18, 19, 20, 21, 22], 23), ([0, 1, 2, 3, 4, 5, 6, 7, 8, 9, 10, 11, 12, 13, 14, 15, 16, 17, 18, 19, 20, 21, 22, 23], 24), ([0, 1, 2, 3, 4, 5, 6, 7, 8, 9, 10, 11, 12, 13, 14, 15, 16, 17, 18, 19, 20, 21, 22, 23, 24], 25), ([0, 1, 2, 3, 4, 5, 6, 7, 8, 9, 10, 11, 12, 13, 14, 15, 16, 17, 18, 19, 20, 21, 22, 23, 24, 25], 26)] 22 (by decide +kernel) ?_
      cases hg0 : (g == 0) with
      | false =>
        have hg1 : ¬ g = 0 := by simpa using hg0
        have hy0 : y = [] := by rw [← hy]; exact manGet_none (by rw [hg]; exact hg1)
        subst hy0
        have hn0 : (is []).length = 0 := rfl
        have hg2 : (g != 0) = true := by simpa using hg1
        try simp [-RF_cons, -RD_cons, hg0,hg1,hg2,hn0]
        repeat (rw [RD_cons]; simp [-RF_cons, -RD_cons, hg0,hg1,hg2,hn0])
        repeat (rw [RF_cons]; simp [-RF_cons, -RD_cons, hg0,hg1,hg2,hn0])
        refine hK _ _ ?_
        repeat (first | (refine T_seqk fun K hK => ?_) | (refine T_reg tOK rfl ?_; simp) | (refine T_ret ?_; try simp) | (refine T_skip ?_; try simp) | (refine T_blockk fun K hK => ?_) | (with_reducible apply_assumption -exfalso -symm) | (rw [afterRF_ret]; simp) | (refine T_exit ?_; try simp) | (refine T_cond_t ?_ ?_; · (simp; done)) | (refine T_cond_f ?_ ?_; · (simp; done)) | (rintro _ _ (_ | _) hz9 <;> first | (simp; done) | (simp at hz9; done)) | (refine And.intro ?_ ?_) | (simp only [Post.block_ret, Post.block_exit, Post.block_normal, Post.block_pan, Post.seq_ret, Post.seq_exit, Post.seq_normal, Post.seq_pan]; try simp) | (refine T_draw tOK tmix [([], 0), ([0], 1), ([0, 1], 2), ([0, 1, 2], 3), ([0, 1, 2, 3], 4), ([0, 1, 2, 3, 4], 5), ([0, 1, 2, 3, 4, 5], 6), ([0, 1, 2, 3, 4, 5, 6], 7), ([0, 1, 2, 3, 4, 5, 6, 7], 8), ([0, 1, 2, 3, 4, 5, 6, 7, 8], 9), ([0, 1, 2, 3, 4, 5, 6, 7, 8, 9], 10), ([0, 1, 2, 3, 4, 5, 6, 7, 8, 9, 10], 11), ([0, 1, 2, 3, 4, 5, 6, 7, 8, 9, 10, 11], 12), ([0, 1, 2, 3, 4, 5, 6, 7, 8, 9, 10, 11, 12], 13), ([0, 1, 2, 3, 4, 5, 6, 7, 8, 9, 10, 11, 12, 13], 14), ([0, 1, 2, 3, 4, 5, 6, 7, 8, 9, 10, 11, 12, 13, 14], 15), ([0, 1, 2, 3, 4, 5, 6, 7, 8, 9, 10, 11, 12, 13, 14, 15], 16), ([0, 1, 2, 3, 4, 5, 6, 7, 8, 9, 10, 11, 12, 13, 14, 15, 16], 17), ([0, 1, 2, 3, 4, 5, 6, 7, 8, 9, 10, 11, 12, 13, 14, 15, 16, 17], 18), ([0, 1, 2, 3, 4, 5, 6, 7, 8, 9, 10, 11, 12, 13, 14, 15, 16, 17, 18], 19), ([0, 1, 2, 3, 4, 5, 6, 7, 8, 9, 10, 11, 12, 13, 14, 15, 16], 20), ([0, 1, 2, 3, 4, 5, 6, 7, 8, 9, 10, 11, 12, 13, 14, 15, 16, 20], 21), ([0, 1, 2, 3, 4, 5, 6, 7, 8, 9, 10, 11, 12, 13, 14, 15, 16, 17, 18, 19, 20, 21], 22), ([0, 1, 2, 3, 4, 5, 6, 7, 8, 9, 10, 11, 12, 13, 14, 15, 16, 17, 18, 19, 20, 21, 22], 23), ([0, 1, 2, 3, 4, 5, 6, 7, 8, 9, 10, 11, 12, 13, 14, 15, 16, 17, 18, 19, 20, 21, 22, 23], 24), ([0, 1, 2, 3, 4, 5, 6, 7, 8, 9, 10, 11, 12, 13, 14, 15, 16, 17, 18, 19, 20, 21, 22, 23, 24], 25), ([0, 1, 2, 3, 4, 5, 6, 7, 8, 9, 10, 11, 12, 13, 14, 15, 16, 17, 18, 19, 20, 21, 22, 23, 24, 25], 26)] 22 (by decide +kernel) ?_; simp))
      | true =>
        have hg1 : g = 0 := by simpa using hg0
        subst hg1
        obtain ⟨p1, p2⟩ := manGet_some hg
        rw [hy] at p1 p2
        have hyl4 : y.length ≤ 40 := (okL_facts p1).2.1
        try simp [-RF_cons, -RD_cons, u8sOf_u8l]
        repeat (rw [RD_cons]; simp [-RF_cons, -RD_cons, u8sOf_u8l])
        repeat (rw [RF_cons]; simp [-RF_cons, -RD_cons, u8sOf_u8l])
        refine RD_call (rd := []) (fun τ _ => C_right (by omega) ⟨rfl, rfl⟩) ?_
        rw [p1]
        try simp [-RF_cons, -RD_cons, u8sOf_u8l]
        repeat (rw [RD_cons]; simp [-RF_cons, -RD_cons, u8sOf_u8l])
        repeat (rw [RF_cons]; simp [-RF_cons, -RD_cons, u8sOf_u8l])
        refine RD_call (rd := []) (fun τ _ => C_put (by omega) ⟨rfl, rfl⟩) ?_
        rw [p2]
        have hcv : sConvStr tE 23 (u8l b) = some (.str ⟨b.toArray⟩) := by
          unfold sConvStr
          rw [show tE.td 23 = .slice 5 from rfl]
          simp only
          rw [show tE.td 5 = .int .u8 from rfl, bytesOf_u8l]
          rfl
        try simp [-RF_cons, -RD_cons, u8sOf_u8l,hcv]
        repeat (rw [RD_cons]; simp [-RF_cons, -RD_cons, u8sOf_u8l,hcv])
        repeat (rw [RF_cons]; simp [-RF_cons, -RD_cons, u8sOf_u8l,hcv])
        refine hK _ _ ?_
        repeat (first | (refine T_seqk fun K hK => ?_) | (refine T_reg tOK rfl ?_; simp) | (refine T_ret ?_; try simp) | (refine T_skip ?_; try simp) | (refine T_blockk fun K hK => ?_) | (with_reducible apply_assumption -exfalso -symm) | (rw [afterRF_ret]; simp) | (refine T_exit ?_; try simp) | (refine T_cond_t ?_ ?_; · (simp; done)) | (refine T_cond_f ?_ ?_; · (simp; done)) | (rintro _ _ (_ | _) hz9 <;> first | (simp; done) | (simp at hz9; done)) | (refine And.intro ?_ ?_) | (simp only [Post.block_ret, Post.block_exit, Post.block_normal, Post.block_pan, Post.seq_ret, Post.seq_exit, Post.seq_normal, Post.seq_pan]; try simp) | (refine T_draw tOK tmix [([], 0), ([0], 1), ([0, 1], 2), ([0, 1, 2], 3), ([0, 1, 2, 3], 4), ([0, 1, 2, 3, 4], 5), ([0, 1, 2, 3, 4, 5], 6), ([0, 1, 2, 3, 4, 5, 6], 7), ([0, 1, 2, 3, 4, 5, 6, 7], 8), ([0, 1, 2, 3, 4, 5, 6, 7, 8], 9), ([0, 1, 2, 3, 4, 5, 6, 7, 8, 9], 10), ([0, 1, 2, 3, 4, 5, 6, 7, 8, 9, 10], 11), ([0, 1, 2, 3, 4, 5, 6, 7, 8, 9, 10, 11], 12), ([0, 1, 2, 3, 4, 5, 6, 7, 8, 9, 10, 11, 12], 13), ([0, 1, 2, 3, 4, 5, 6, 7, 8, 9, 10, 11, 12, 13], 14), ([0, 1, 2, 3, 4, 5, 6, 7, 8, 9, 10, 11, 12, 13, 14], 15), ([0, 1, 2, 3, 4, 5, 6, 7, 8, 9, 10, 11, 12, 13, 14, 15], 16), ([0, 1, 2, 3, 4, 5, 6, 7, 8, 9, 10, 11, 12, 13, 14, 15, 16], 17), ([0, 1, 2, 3, 4, 5, 6, 7, 8, 9, 10, 11, 12, 13, 14, 15, 16, 17], 18), ([0, 1, 2, 3, 4, 5, 6, 7, 8, 9, 10, 11, 12, 13, 14, 15, 16, 17, 18], 19), ([0, 1, 2, 3, 4, 5, 6, 7, 8, 9, 10, 11, 12, 13, 14, 15, 16], 20), ([0, 1, 2, 3, 4, 5, 6, 7, 8, 9, 10, 11, 12, 13, 14, 15, 16, 20], 21), ([0, 1, 2, 3, 4, 5, 6, 7, 8, 9, 10, 11, 12, 13, 14, 15, 16, 17, 18, 19, 20, 21], 22), ([0, 1, 2, 3, 4, 5, 6, 7, 8, 9, 10, 11, 12, 13, 14, 15, 16, 17, 18, 19, 20, 21, 22], 23), ([0, 1, 2, 3, 4, 5, 6, 7, 8, 9, 10, 11, 12, 13, 14, 15, 16, 17, 18, 19, 20, 21, 22, 23], 24), ([0, 1, 2, 3, 4, 5, 6, 7, 8, 9, 10, 11, 12, 13, 14, 15, 16, 17, 18, 19, 20, 21, 22, 23, 24], 25), ([0, 1, 2, 3, 4, 5, 6, 7, 8, 9, 10, 11, 12, 13, 14, 15, 16, 17, 18, 19, 20, 21, 22, 23, 24, 25], 26)] 22 (by decide +kernel) ?_; simp))
end
end Go.Proofs.Ytphhcpdkemagiaa
end
section
/- ManifestRow: the plain law. -/
set_option linter.unusedVariables false
set_option linter.unusedSimpArgs false
set_option maxRecDepth 20000
namespace Go.Proofs.Ytphhcpdkemagiaa
open Go

def rowF (l : List Int) : List (List UInt8 × Fl) := if l = [] then [] else [(filN.data.toList, ⟨manPut l, (manPut l).length⟩)]
def rowD (l : List Int) : Dk := ⟨3000, rowF l, -1, 0⟩
theorem named_tmp : named tmpN = true := by decide +kernel
theorem named_fil : named filN = true := by decide +kernel
theorem fil_tmp : (filN.data.toList == tmpN.data.toList) = false := by decide +kernel
theorem tmp_fil : (tmpN.data.toList == filN.data.toList) = false := by decide +kernel
theorem before_ft : (Lit.string tmpN.data.toList).before (.string filN.data.toList) = false := by decide +kernel
theorem manPut_le {l : List Int} : (manPut l).length ≤ 165 := by
  cases h : okL l with
  | true => rw [manPut_len h]; have := (okL_facts h).2.1; omega
  | false => unfold manPut; rw [if_neg (by simp [h])]; simp
theorem ftl : (([109, 97, 110, 105, 102, 101, 115, 116] : List UInt8) == [109, 97, 110, 105, 102, 101, 115, 116, 46, 116, 109, 112]) = false := by decide
theorem bfl : (Lit.string [109, 97, 110, 105, 102, 101, 115, 116, 46, 116, 109, 112]).before (.string [109, 97, 110, 105, 102, 101, 115, 116]) = false := by decide +kernel
theorem rowF_tmp (l : List Int) : dget tmpN.data.toList (rowF l) = none := by
  unfold rowF
  split
  · rfl
  · simp only [dget, List.find?_cons, fil_tmp, List.find?_nil]; rfl
theorem rowF_len (l : List Int) : (rowF l).length ≤ 1 := by unfold rowF; split <;> simp
theorem rowF_used (l : List Int) : used (rowF l) ≤ 165 := by
  unfold rowF used
  split
  · simp
  · have := manPut_le (l := l); simp; omega
theorem rowF_put (l : List Int) (f : Fl) : dput tmpN.data.toList f (rowF l) = rowF l ++ [(tmpN.data.toList, f)] := by
  unfold rowF
  split
  · rfl
  · simp only [dput, ddel, List.filter_cons, fil_tmp, ftl, bfl, Bool.not_false, if_true, List.filter_nil, dins, before_ft, Bool.false_eq_true, if_false, List.cons_append, List.nil_append]
theorem find_app (l : List Int) (f : Fl) : dget tmpN.data.toList (rowF l ++ [(tmpN.data.toList, f)]) = some f := by
  unfold rowF
  split
  · simp [dget]
  · simp only [dget, List.cons_append, List.nil_append, List.find?_cons, fil_tmp, ftl, beq_self_eq_true]; rfl
theorem del_app (l : List Int) (f : Fl) : ddel tmpN.data.toList (rowF l ++ [(tmpN.data.toList, f)]) = rowF l := by
  unfold rowF
  split
  · simp [ddel]
  · simp only [ddel, List.cons_append, List.nil_append, List.filter_cons, fil_tmp, ftl, beq_self_eq_true, Bool.not_false, Bool.not_true, if_true, Bool.false_eq_true, if_false, List.filter_nil]
theorem put_app (l : List Int) (f g : Fl) : dput tmpN.data.toList g (rowF l ++ [(tmpN.data.toList, f)]) = rowF l ++ [(tmpN.data.toList, g)] := by
  rw [dput, del_app]
  have := rowF_put l g
  unfold dput at this
  have e : ddel tmpN.data.toList (rowF l) = rowF l := by
    unfold rowF
    split
    · rfl
    · simp only [ddel, List.filter_cons, fil_tmp, ftl, bfl, Bool.not_false, if_true, List.filter_nil]
  rw [e] at this; exact this
theorem fil_put (l : List Int) (f : Fl) : dput filN.data.toList f (rowF l) = [(filN.data.toList, f)] := by
  unfold rowF
  split
  · rfl
  · simp only [dput, ddel, List.filter_cons, beq_self_eq_true, Bool.not_true, Bool.false_eq_true, if_false, List.filter_nil, dins]
theorem row_bad {d : Dk} {l : List Int} (h : okL l = false) : manSwap d l = (1, d) := by unfold manSwap; rw [if_neg (by simp [h])]
theorem row_ok {last l : List Int} (h : okL l = true) : manSwap (rowD last) l = (0, rowD l) := by
  have hl : ¬ l = [] := by rintro rfl; simp [okL] at h
  have u := rowF_used last
  have p := manPut_le (l := l)
  have n := rowF_len last
  have e1 : write (rowD last) tmpN (manPut l) = (0, ⟨3000, rowF last ++ [(tmpN.data.toList, ⟨manPut l, 0⟩)], -1, 0⟩) := by
    unfold write rowD
    simp only
    rw [if_neg (by decide), if_neg (by rw [named_tmp]; decide), rowF_tmp]
    simp only
    rw [if_neg (by omega), if_neg (by omega), rowF_put]
    rfl
  have e2 : sync ⟨3000, rowF last ++ [(tmpN.data.toList, ⟨manPut l, 0⟩)], -1, 0⟩ tmpN = (0, ⟨3000, rowF last ++ [(tmpN.data.toList, ⟨manPut l, (manPut l).length⟩)], -1, 0⟩) := by
    unfold sync
    simp only
    rw [if_neg (by decide), find_app]
    simp only
    rw [if_neg (by decide), put_app]
    rfl
  have e3 : rename ⟨3000, rowF last ++ [(tmpN.data.toList, ⟨manPut l, (manPut l).length⟩)], -1, 0⟩ tmpN filN = (0, rowD l) := by
    unfold rename
    simp only
    rw [if_neg (by decide), if_neg (by rw [named_fil]; decide), find_app]
    simp only
    rw [del_app, fil_put]
    unfold rowD
    have : rowF l = [(filN.data.toList, ⟨manPut l, (manPut l).length⟩)] := by unfold rowF; rw [if_neg hl]
    rw [this]; rfl
  unfold manSwap
  rw [if_pos h]
  have : (rowD last).files = rowF last := rfl
  rw [this, rowF_tmp, if_neg (by simp)]
  unfold manTurn
  rw [e1]
  simp only
  rw [if_pos (by decide), e2]
  simp only
  rw [if_pos (by decide), e3]
theorem row_load0 : manLoad (rowD []) = ([], 3) := rfl
theorem row_load {l : List Int} (h : okL l = true) : manLoad (rowD l) = (l, 0) := by
  have hl : ¬ l = [] := by rintro rfl; simp [okL] at h
  have : (rowD l).files = [(filN.data.toList, ⟨manPut l, (manPut l).length⟩)] := by
    show rowF l = _
    unfold rowF; rw [if_neg hl]
  unfold manLoad
  rw [this]
  simp only [dget, List.find?_cons, beq_self_eq_true, Option.map_some]
  exact manGet_put h
theorem row_names {l : List Int} (h : okL l = true) : names (rowD l) = [filN.data.toList] := by
  have hl : ¬ l = [] := by rintro rfl; simp [okL] at h
  have : (rowD l).files = [(filN.data.toList, ⟨manPut l, (manPut l).length⟩)] := by
    show rowF l = _
    unfold rowF; rw [if_neg hl]
  unfold names
  rw [this]; simp
theorem row_inv {l : List Int} (h : l = [] ∨ okL l = true) : Inv (rowD l) := by
  rcases h with rfl | h
  · exact Inv.new (by decide) (by decide)
  · have hI : Inv (rowD []) := Inv.new (by decide) (by decide)
    have := hI.swap (l := l)
    rw [row_ok h] at this
    exact this
end Go.Proofs.Ytphhcpdkemagiaa
end
