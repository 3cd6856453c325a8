/- ManifestRight: the walk. -/
import Derived.Test.YtdplbgfokoajjaaGreatXo
import Derived.Test.YtdplbgfokoajjaaGreatXn
section
set_option linter.unusedVariables false
set_option linter.unusedSimpArgs false
set_option maxRecDepth 20000
namespace Go.Proofs.YtdplbgfokoajjaaGreat
open Go
attribute [local simp] RF_nil RF_cons afterRF_ret nilCmp sop sGuard isCall sCallee Fr.eval Fr.get Fr.put ofConst sLoad sStore sBuiltin Fr.args bodyQ sRes oneOf sBin sInt sUn
attribute [local simp] RD_nil RD_cons noConf clear accAdd Tab.pr Tab.slot foot wid idOf refId Op.operands Call.operands sFieldAddr sNilCheck sLookup keyLit sMapSet sMapDel sLen Store.at Store.new getP setP typeAt fits evalParts sBuildSlice sFill sList sApp sAppend frzRe frz pureB pureL
attribute [local simp] optEval sSlice sIndexAddr xop sClear
def wk (l : List Int) (k : Nat) : Bool := decide (1 ≤ l.length) && decide (l.length ≤ 40) && (l.take k).all inB && rises (l.take k)
theorem rises_snoc : ∀ {l : List Int} {x : Int}, rises (l ++ [x]) = (rises l && (l.isEmpty || decide (l.getLastD 0 < x)))
 | [], x => by simp [rises]
 | [a], x => by simp [rises]
 | a :: b :: l, x => by
  have ih := rises_snoc (l := b :: l) (x := x)
  simp only [List.cons_append] at ih ⊢
  simp only [rises, ih, List.isEmpty_cons, Bool.false_or, Bool.and_assoc]
  simp
theorem wk_zero {l : List Int} : wk l 0 = (decide (1 ≤ l.length) && decide (l.length ≤ 40)) := by simp [wk, rises]
theorem wk_full {l : List Int} : wk l l.length = okL l := by
 unfold wk okL
 rw [List.take_length]
 rfl
theorem wk_succ0 {l : List Int} (h : 0 < l.length) : wk l 1 = (wk l 0 && inB l[0]) := by
 cases l with
 | nil => simp at h
 | cons a l => simp [wk, rises]
theorem wk_succ {l : List Int} {k : Nat} (h : k + 1 < l.length) : wk l (k + 2) = (wk l (k + 1) && inB l[k + 1] && decide (l[k] < l[k + 1])) := by
 unfold wk
 rw [List.take_add_one (i := k + 1), List.getElem?_eq_getElem h]
 simp only [Option.toList, List.all_append, List.all_cons, List.all_nil, Bool.and_true, rises_snoc]
 have h1 : (l.take (k + 1)).isEmpty = false := by cases l <;> simp at h ⊢
 have h2 : (l.take (k + 1)).getLastD 0 = l[k] := by
  rw [List.getLastD_eq_getLast?, List.getLast?_take]
  simp [show k < l.length by omega]
 rw [h1, h2]
 simp only [Bool.false_or]
 generalize decide (1 ≤ l.length) = a
 generalize decide (l.length ≤ 40) = b
 generalize (l.take (k + 1)).all inB = c
 generalize inB l[k + 1] = d
 generalize rises (l.take (k + 1)) = e
 generalize decide (l[k] < l[k + 1]) = f
 revert a b c d e f
 decide
theorem okL_less {l : List Int} (h : okL l = true) {k : Nat} (hk : k < l.length) : okL (l.take k ++ l.drop (k + 1)) = decide (1 < l.length) := by
 unfold okL at h ⊢
 simp only [Bool.and_eq_true, decide_eq_true_eq] at h
 obtain ⟨⟨⟨h1, h2⟩, h3⟩, h4⟩ := h
 have hlen : (l.take k ++ l.drop (k + 1)).length = l.length - 1 := by simp; omega
 have hin : (l.take k ++ l.drop (k + 1)).all inB = true := by
  rw [List.all_append, Bool.and_eq_true]
  exact ⟨List.all_eq_true.2 fun x hx => List.all_eq_true.1 h3 x (List.mem_of_mem_take hx), List.all_eq_true.2 fun x hx => List.all_eq_true.1 h3 x (List.mem_of_mem_drop hx)⟩
 have hri : rises (l.take k ++ l.drop (k + 1)) = true := by
  have hp : l.Pairwise (· < ·) := by
   refine List.pairwise_iff_getElem.2 fun i j hi hj hij => ?_
   have hs := rises_iff.1 h4
   have key : ∀ d i, (hi : i + d + 1 < l.length) → l[i] < l[i + d + 1] := by
    intro d
    induction d with
    | zero => intro i hi; have := hs i hi; simpa [hi, show i < l.length by omega] using this
    | succ d ih =>
     intro i hi
     have a := ih i (by omega)
     have b := hs (i + d + 1) hi
     simp only [List.getD_eq_getElem?_getD, List.getElem?_eq_getElem (show i + d + 1 < l.length by omega), List.getElem?_eq_getElem (show i + d + 1 + 1 < l.length by omega), Option.getD_some] at b
     exact Int.lt_trans a b
   have := key (j - i - 1) i (by omega)
   simpa [show i + (j - i - 1) + 1 = j by omega] using this
  have hq : (l.take k ++ l.drop (k + 1)).Pairwise (· < ·) := by
   refine List.Pairwise.sublist ?_ hp
   have : l.take k ++ l.drop (k + 1) = l.eraseIdx k := (List.eraseIdx_eq_take_drop_succ l k).symm
   rw [this]; exact List.eraseIdx_sublist l k
  refine rises_iff.2 fun i hi => ?_
  have := List.pairwise_iff_getElem.1 hq i (i + 1) (by omega) hi (by omega)
  simp only [List.getD_eq_getElem?_getD, List.getElem?_eq_getElem (show i < (l.take k ++ l.drop (k + 1)).length by omega), List.getElem?_eq_getElem hi, Option.getD_some]
  exact this
 rw [hlen, hin, hri]
 simp only [Bool.and_true]
 rw [show decide (l.length - 1 ≤ 40) = true from decide_eq_true (by omega), Bool.and_true]
 congr 1
 simp; omega
theorem wk_step {l : List Int} {k : Nat} (h : k < l.length) : wk l (k + 1) = (wk l k && (decide (0 ≤ l[k]) && (decide (l[k] ≤ 1073741824) && (k == 0 || decide (l[k - 1]! < l[k]))))) := by
 cases k with
 | zero => rw [wk_succ0 h]; simp [inB]
 | succ k =>
  rw [wk_succ h]
  have : l[k + 1 - 1]! = l[k] := by simp [show k < l.length by omega]
  rw [this]
  simp [inB, Bool.and_assoc]
section
variable {E : Env} {N z : Nat} {Q : Post} {fr : Fr} {σ : Store}
theorem T_seqkk {x y : Code} (ts : List Nat) (fr' : Fr) (σ' : Store) (h1 : ∀ K : Fr → Store → Prop, (∀ fr σ, Fr.keep ts fr = fr' → σ = σ' → K fr σ) → T E N z x (Post.seq K Q) fr σ) (h2 : T E N z y Q fr' σ') : T E N z (.seq x y) Q fr σ :=
 T_seqk fun K hK => h1 K fun fr σ e1 e2 => hK _ _ (T_keep ts (by rw [e1, e2]; exact h2))
end
section
variable {E : Env} {N z : Nat} {Q : Post} {fr : Fr} {σ : Store}
theorem T_fall {c : Code} {fr' : Fr} {σ' : Store} (n : Nat) (ts : List Nat) (hz : z ≤ n) (hfr : Fr.keep ts fr = fr') (hb : belowFr n fr' = true) (hσ : σ.take n = σ') (hall : belowStore n σ' = true) (h : T E N z c Q fr' σ') : T E N z c Q fr σ := fun cx a ht hn hf => by
 subst hfr hσ
 have hn' := hn.upto n (Nat.le_trans ht hz) hall
 have hf0 := hf.keep ts
 have hf' : FR E (cx.upto n) N (Fr.keep ts fr) a.tmps := ⟨hf0.1, fun t x hx => by
  obtain ⟨h1, h2⟩ := hf0.2 t x hx
  refine ⟨h1, VL.lower h2 (n := n) ?_ (fun _ h => h) (fun _ _ => rfl) (fun b h h' => ⟨h', h⟩) (fun b m h => (Cx.upto_mu h).2)⟩
  have := List.all_eq_true.1 hb (t, x) (Fr.get_mem hx)
  simpa [belowL] using this⟩
 have hs : Step (cx.below z) (cx.upto n) := ⟨⟨fun _ h => h, fun _ _ => rfl, fun b hb => ⟨Nat.lt_of_lt_of_le hb.2 hz, hb.1⟩, fun b _ m h => ⟨m, (Cx.upto_mu h).2, Nat.le_refl _, fun _ => rfl⟩⟩, fun _ h => h, fun _ _ => rfl, fun _ h => .inl h,
  fun b m h => .inr ⟨b, m, (Cx.upto_mu h).2, rfl⟩, rfl, fun b hb => by
   rcases Nat.lt_or_ge b z with h | h
   ·exact .inl ⟨hb.2, h⟩
   ·exact .inr (Nat.le_trans ht h), Nat.le_refl _, rfl, rfl, rfl⟩
 exact wr_mono (h (cx.upto n) a ht hn' hf') fun e a w => Lift.step hs
theorem T_seqkf {x y : Code} (n : Nat) (ts : List Nat) (fr' : Fr) (σ' : Store) (hz : z ≤ n) (hb : belowFr n fr' = true) (hall : belowStore n σ' = true) (h1 : ∀ K : Fr → Store → Prop, (∀ fr σ, Fr.keep ts fr = fr' → σ.take n = σ' → K fr σ) → T E N z x (Post.seq K Q) fr σ) (h2 : T E N z y Q fr' σ') : T E N z (.seq x y) Q fr σ :=
 T_seqk fun K hK => h1 K fun fr σ e1 e2 => hK _ _ (T_fall n ts hz e1 hb e2 hall h2)
end
section
variable {R : Re → Store → Prop} {σ : Store}
theorem shr32_1 (a : Nat) : (a : Int).fdiv (2 ^ min 1 IntKind.u32.bits) = (a : Int) / 2 := (shr_nat .u32 a 1).trans (by simp [IntKind.bits])
theorem C_rmore {s : Nat} {l : List UInt8} (hs : s < 4294967296) (hl : l.length < 1000000000) (h : R (.ret (.int .u32 (crcM s l : Nat))) σ) : C tE 89 [.int .u32 s, u8s l] σ R := by
 have hll : (u8l l).length = l.length := by simp [u8l]
 have h0 : bits .xor .u32 4294967295 (s : Int) = ((4294967295 ^^^ s : Nat) : Int) := xor32 (a := 4294967295) (by decide) hs
 have hr0 : 4294967295 ^^^ s < 4294967296 := Nat.xor_lt_two_pow (n := 32) (by decide) hs
 refine C_pure tOK (by simp [u8s, pureL_u8]) ?_
 unfold u8s
 refine C_bodyk tOK Tryz.func89 rfl (Nat.le_of_ble_eq_true rfl) fun K hK => ?_; simp
 repeat (first | (refine T_seqk fun K hK => ?_) | (refine T_reg tOK rfl ?_; simp [h0,hll]) | (refine T_ret ?_; try simp) | (refine T_skip ?_; try simp) | (refine T_blockk fun K hK => ?_) | (with_reducible apply_assumption -exfalso -symm) | (rw [afterRF_ret]; simp [h0,hll]) | (refine T_exit ?_; try simp) | (refine T_cond_t ?_ ?_; · (simp; done)) | (refine T_cond_f ?_ ?_; · (simp; done)) | (rintro _ _ (_ | _) hz9 <;> first | (simp; done) | (simp at hz9; done)) | (refine And.intro ?_ ?_) | (simp only [Post.block_ret, Post.block_exit, Post.block_normal, Post.block_pan, Post.seq_ret, Post.seq_exit, Post.seq_normal, Post.seq_pan]; try simp [h0,hll]))
 refine T_loop ?_
 refine TL_keep [1, 5, 6] ?_
 simp [Fr.keep,h0]
 refine TL_ix (fun k => [(1, .lit (u8l l)), (5, .int .u32 ((l.take k).foldl crcStep (4294967295 ^^^ s) : Nat)), (6, i64 k)]) (fun k => []) l.length (fun _ => True) trivial (fun _ => ?_) (fun k hk _ ih => ?_)
 ·refine TL_round ?_
  have hfin : bits .xor .u32 4294967295 ((l.foldl crcStep (4294967295 ^^^ s) : Nat) : Int) = (crcM s l : Nat) := xor32 (a := 4294967295) (by decide) (fold_lt l hr0)
  repeat (first | (refine T_seqk fun K hK => ?_) | (refine T_reg tOK rfl ?_; simp [List.take_length,hfin,hll]) | (refine T_ret ?_; try simp) | (refine T_skip ?_; try simp) | (refine T_blockk fun K hK => ?_) | (with_reducible apply_assumption -exfalso -symm) | (rw [afterRF_ret]; simp [List.take_length,hfin,hll]) | (refine T_exit ?_; try simp) | (refine T_cond_t ?_ ?_; · (simp; done)) | (refine T_cond_f ?_ ?_; · (simp; done)) | (rintro _ _ (_ | _) hz9 <;> first | (simp; done) | (simp at hz9; done)) | (refine And.intro ?_ ?_) | (simp only [Post.block_ret, Post.block_exit, Post.block_normal, Post.block_pan, Post.seq_ret, Post.seq_exit, Post.seq_normal, Post.seq_pan]; try simp [List.take_length,hfin,hll]))
 ·refine TL_round ?_
  replace ih := PLift.up (ih trivial)
  have hk0 : decide (k < l.length) = true := by simpa using hk
  have hwk : IntKind.i64.wrap ((k : Int) + 1) = ((k + 1 : Nat) : Int) := by rw [IntWalk.i64_in _ (by omega)]; omega
  have hlk : l[k]? = some l[k] := List.getElem?_eq_getElem hk
  have hel : (u8l l)[k]? = some (.int .u8 (l[k]).toNat) := by simp [u8l, hlk]
  have hlt : k < (u8l l).length := by omega
  have hel2 := get_of hel hlt
  have hfo := fold_take crcStep (4294967295 ^^^ s) hlk
  generalize l[k] = c at *
  have hr := fold_lt (l.take k) hr0
  generalize (l.take k).foldl crcStep (4294967295 ^^^ s) = r at *
  have hc := UInt8.toNat_lt c
  have hx32 : bits .xor .u32 (r : Int) (c.toNat : Int) = ((r ^^^ c.toNat : Nat) : Int) := xor32 hr (by omega)
  have hr1 : r ^^^ c.toNat < 4294967296 := Nat.xor_lt_two_pow (n := 32) (by omega) (by omega)
  have h8 := csN8 r c
  have hwc : IntKind.u32.wrap (c.toNat : Int) = c.toNat := wraps_u32 _ (by omega) (by omega)
  refine T_seqkk [1, 5, 6] [(1, .lit (u8l l)), (5, .int .u32 r), (6, i64 k)] [] (fun K hK => ?_) ?_
  ·repeat (first | (refine T_seqk fun K hK => ?_) | (refine T_reg tOK rfl ?_; simp [hll,hk0,Fr.keep]) | (refine T_ret ?_; try simp) | (refine T_skip ?_; try simp) | (refine T_blockk fun K hK => ?_) | (with_reducible apply_assumption -exfalso -symm) | (rw [afterRF_ret]; simp [hll,hk0,Fr.keep]) | (refine T_exit ?_; try simp) | (refine T_cond_t ?_ ?_; · (simp; done)) | (refine T_cond_f ?_ ?_; · (simp; done)) | (rintro _ _ (_ | _) hz9 <;> first | (simp; done) | (simp at hz9; done)) | (refine And.intro ?_ ?_) | (simp only [Post.block_ret, Post.block_exit, Post.block_normal, Post.block_pan, Post.seq_ret, Post.seq_exit, Post.seq_normal, Post.seq_pan]; try simp [hll,hk0,Fr.keep]))
  refine T_seqkk [1, 5, 6] [(1, .lit (u8l l)), (5, .int .u32 (crcStep r c : Nat)), (6, i64 k)] [] (fun K hK => ?_) ?_
  ·refine T_blockk fun Q' hQ' => ?_
   refine T_seqkk [1, 5, 6] [(1, .lit (u8l l)), (5, .int .u32 (r ^^^ c.toNat : Nat)), (6, i64 k)] [] (fun K hK => ?_) ?_
   ·repeat (first | (refine T_seqk fun K hK => ?_) | (refine T_reg tOK rfl ?_; simp [hel,hel2,hlt,hwc,hx32,Fr.keep]) | (refine T_ret ?_; try simp) | (refine T_skip ?_; try simp) | (refine T_blockk fun K hK => ?_) | (with_reducible apply_assumption -exfalso -symm) | (rw [afterRF_ret]; simp [hel,hel2,hlt,hwc,hx32,Fr.keep]) | (refine T_exit ?_; try simp) | (refine T_cond_t ?_ ?_; · (simp; done)) | (refine T_cond_f ?_ ?_; · (simp; done)) | (rintro _ _ (_ | _) hz9 <;> first | (simp; done) | (simp at hz9; done)) | (refine And.intro ?_ ?_) | (simp only [Post.block_ret, Post.block_exit, Post.block_normal, Post.block_pan, Post.seq_ret, Post.seq_exit, Post.seq_normal, Post.seq_pan]; try simp [hel,hel2,hlt,hwc,hx32,Fr.keep]))
   repeat (first | (refine T_seqk fun K hK => ?_) | (refine T_reg tOK rfl ?_; simp) | (refine T_ret ?_; try simp) | (refine T_skip ?_; try simp) | (refine T_blockk fun K hK => ?_) | (with_reducible apply_assumption -exfalso -symm) | (rw [afterRF_ret]; simp) | (refine T_exit ?_; try simp) | (refine T_cond_t ?_ ?_; · (simp; done)) | (refine T_cond_f ?_ ?_; · (simp; done)) | (rintro _ _ (_ | _) hz9 <;> first | (simp; done) | (simp at hz9; done)) | (refine And.intro ?_ ?_) | (simp only [Post.block_ret, Post.block_exit, Post.block_normal, Post.block_pan, Post.seq_ret, Post.seq_exit, Post.seq_normal, Post.seq_pan]; try simp))
   refine T_loop ?_
   refine TL_keep [1, 5, 6, 7] ?_
   simp [Fr.keep]
   refine TL_ix (fun j => [(1, .lit (u8l l)), (5, .int .u32 (csN j (r ^^^ c.toNat) : Nat)), (6, i64 k), (7, i64 j)]) (fun k => []) 8 (fun _ => True) trivial (fun _ => ?_) (fun j hj _ ih2 => ?_)
   ·refine TL_round ?_
    rw [h8]
    repeat (first | (refine T_seqk fun K hK => ?_) | (refine T_reg tOK rfl ?_; simp [Fr.keep]) | (refine T_ret ?_; try simp) | (refine T_skip ?_; try simp) | (refine T_blockk fun K hK => ?_) | (with_reducible apply_assumption -exfalso -symm) | (rw [afterRF_ret]; simp [Fr.keep]) | (refine T_exit ?_; try simp) | (refine T_cond_t ?_ ?_; · (simp; done)) | (refine T_cond_f ?_ ?_; · (simp; done)) | (rintro _ _ (_ | _) hz9 <;> first | (simp; done) | (simp at hz9; done)) | (refine And.intro ?_ ?_) | (simp only [Post.block_ret, Post.block_exit, Post.block_normal, Post.block_pan, Post.seq_ret, Post.seq_exit, Post.seq_normal, Post.seq_pan]; try simp [Fr.keep]))
   ·refine TL_round ?_
    replace ih2 := PLift.up (ih2 trivial)
    have hx := csN_lt hr1 j
    have hj0 : decide ((j : Int) < 8) = true := by rw [decide_eq_true_eq]; omega
    have hwj : IntKind.i64.wrap ((j : Int) + 1) = ((j + 1 : Nat) : Int) := by rw [IntWalk.i64_in _ (by omega)]; omega
    have hcs : csN (j + 1) (r ^^^ c.toNat) = cs (csN j (r ^^^ c.toNat)) := rfl
    rw [hcs] at ih2
    generalize csN j (r ^^^ c.toNat) = x at *
    have hw1 : IntKind.u32.wrap ((x : Int) / 2) = (x : Int) / 2 := wraps_u32 _ (by omega) (by omega)
    refine T_seqkk [1, 5, 6, 7] [(1, .lit (u8l l)), (5, .int .u32 x), (6, i64 k), (7, i64 j)] [] (fun K hK => ?_) ?_
    ·repeat (first | (refine T_seqk fun K hK => ?_) | (refine T_reg tOK rfl ?_; simp [hj0,Fr.keep]) | (refine T_ret ?_; try simp) | (refine T_skip ?_; try simp) | (refine T_blockk fun K hK => ?_) | (with_reducible apply_assumption -exfalso -symm) | (rw [afterRF_ret]; simp [hj0,Fr.keep]) | (refine T_exit ?_; try simp) | (refine T_cond_t ?_ ?_; · (simp; done)) | (refine T_cond_f ?_ ?_; · (simp; done)) | (rintro _ _ (_ | _) hz9 <;> first | (simp; done) | (simp at hz9; done)) | (refine And.intro ?_ ?_) | (simp only [Post.block_ret, Post.block_exit, Post.block_normal, Post.block_pan, Post.seq_ret, Post.seq_exit, Post.seq_normal, Post.seq_pan]; try simp [hj0,Fr.keep]))
    refine T_seqkk [1, 5, 6, 7] [(1, .lit (u8l l)), (5, .int .u32 (cs x : Nat)), (6, i64 k), (7, i64 j)] [] (fun K hK => ?_) ?_
    ·refine T_blockk fun Q' hQ' => ?_
     by_cases hp : x % 2 = 1
     ·have hc1 : cs x = x / 2 ^^^ 3988292384 := by unfold cs; rw [if_pos hp]
      have hxp : bits .xor .u32 ((x : Int) / 2) 3988292384 = (cs x : Nat) := by rw [hc1]; exact xor32 (a := x / 2) (b := 3988292384) (by omega) (by decide)
      have hpi : ((x : Int).tmod 2 == 1) = true := by rw [show (x : Int).tmod 2 = ((x % 2 : Nat) : Int) from rfl, hp]; rfl
      repeat (first | (refine T_seqk fun K hK => ?_) | (refine T_reg tOK rfl ?_; simp [hpi,shr32_1,hxp,hw1,Fr.keep]) | (refine T_ret ?_; try simp) | (refine T_skip ?_; try simp) | (refine T_blockk fun K hK => ?_) | (with_reducible apply_assumption -exfalso -symm) | (rw [afterRF_ret]; simp [hpi,shr32_1,hxp,hw1,Fr.keep]) | (refine T_exit ?_; try simp) | (refine T_cond_t ?_ ?_; · (simp; done)) | (refine T_cond_f ?_ ?_; · (simp; done)) | (rintro _ _ (_ | _) hz9 <;> first | (simp; done) | (simp at hz9; done)) | (refine And.intro ?_ ?_) | (simp only [Post.block_ret, Post.block_exit, Post.block_normal, Post.block_pan, Post.seq_ret, Post.seq_exit, Post.seq_normal, Post.seq_pan]; try simp [hpi,shr32_1,hxp,hw1,Fr.keep]))
      try (refine hQ' _ _ _ ?_; exact hK _ _ (by simp [Fr.keep]) (by simp))
     ·have hc1 : cs x = x / 2 := by unfold cs; rw [if_neg hp, Nat.xor_zero]
      have hpi : ((x : Int).tmod 2 == 1) = false := by rw [show (x : Int).tmod 2 = ((x % 2 : Nat) : Int) from rfl, show x % 2 = 0 by omega]; rfl
      rw [hc1] at hK
      repeat (first | (refine T_seqk fun K hK => ?_) | (refine T_reg tOK rfl ?_; simp [hpi,shr32_1,hw1,Fr.keep]) | (refine T_ret ?_; try simp) | (refine T_skip ?_; try simp) | (refine T_blockk fun K hK => ?_) | (with_reducible apply_assumption -exfalso -symm) | (rw [afterRF_ret]; simp [hpi,shr32_1,hw1,Fr.keep]) | (refine T_exit ?_; try simp) | (refine T_cond_t ?_ ?_; · (simp; done)) | (refine T_cond_f ?_ ?_; · (simp; done)) | (rintro _ _ (_ | _) hz9 <;> first | (simp; done) | (simp at hz9; done)) | (refine And.intro ?_ ?_) | (simp only [Post.block_ret, Post.block_exit, Post.block_normal, Post.block_pan, Post.seq_ret, Post.seq_exit, Post.seq_normal, Post.seq_pan]; try simp [hpi,shr32_1,hw1,Fr.keep]))
      try (refine hQ' _ _ _ ?_; exact hK _ _ (by simp [Fr.keep]) (by simp))
    ·refine T_reg tOK rfl ?_
     simp [hwj]
     refine TL_keep [1, 5, 6, 7] ?_
     simp [Fr.keep]
     exact ih2.down
  refine T_reg tOK rfl ?_
  simp [hwk]
  refine TL_keep [1, 5, 6] ?_
  simpa [Fr.keep, hfo] using ih.down
theorem C_rof {l : List UInt8} (hl : l.length < 1000000000) (h : R (.ret (.int .u32 (crc l : Nat))) σ) : C tE 76 [u8s l] σ R := by
 refine C_pure tOK (by simp [u8s, pureL_u8]) ?_
 refine C_bodyk tOK Tryz.func76 rfl (Nat.le_of_ble_eq_true rfl) fun K hK => ?_; simp
 repeat (first | (refine T_seqk fun K hK => ?_) | (refine T_reg tOK rfl ?_; simp) | (refine T_ret ?_; try simp) | (refine T_skip ?_; try simp) | (refine T_blockk fun K hK => ?_) | (with_reducible apply_assumption -exfalso -symm) | (rw [afterRF_ret]; simp) | (refine T_exit ?_; try simp) | (refine T_cond_t ?_ ?_; · (simp; done)) | (refine T_cond_f ?_ ?_; · (simp; done)) | (rintro _ _ (_ | _) hz9 <;> first | (simp; done) | (simp at hz9; done)) | (refine And.intro ?_ ?_) | (simp only [Post.block_ret, Post.block_exit, Post.block_normal, Post.block_pan, Post.seq_ret, Post.seq_exit, Post.seq_normal, Post.seq_pan]; try simp) | (refine T_loop (TL_round ?_)) | (refine TL_round ?_))
 refine C_rmore (s := 0) (by decide) hl ?_
 repeat (first | (refine T_seqk fun K hK => ?_) | (refine T_reg tOK rfl ?_; simp) | (refine T_ret ?_; try simp) | (refine T_skip ?_; try simp) | (refine T_blockk fun K hK => ?_) | (with_reducible apply_assumption -exfalso -symm) | (rw [afterRF_ret]; simp) | (refine T_exit ?_; try simp) | (refine T_cond_t ?_ ?_; · (simp; done)) | (refine T_cond_f ?_ ?_; · (simp; done)) | (rintro _ _ (_ | _) hz9 <;> first | (simp; done) | (simp at hz9; done)) | (refine And.intro ?_ ?_) | (simp only [Post.block_ret, Post.block_exit, Post.block_normal, Post.block_pan, Post.seq_ret, Post.seq_exit, Post.seq_normal, Post.seq_pan]; try simp) | (refine T_loop (TL_round ?_)) | (refine TL_round ?_))
end
def pk (l : List Int) (k : Nat) : Bool := (l.take k).all inB && rises (l.take k)
theorem pk_zero {l : List Int} : pk l 0 = true := by simp [pk, rises]
theorem pk_full {l : List Int} : (decide (1 ≤ l.length) && decide (l.length ≤ 40) && pk l l.length) = okL l := by
 unfold pk okL
 rw [List.take_length]
 simp only [Bool.and_assoc]
 rfl
theorem pk_step {l : List Int} {k : Nat} (h : k < l.length) : pk l (k + 1) = (pk l k && (decide (0 ≤ l[k]) && (decide (l[k] ≤ 1073741824) && (k == 0 || decide (l[k - 1]! < l[k]))))) := by
 cases k with
 | zero =>
  cases l with
  | nil => simp at h
  | cons a l => simp [pk, rises, inB]
 | succ k =>
  have e : l[k + 1 - 1]! = l[k] := by simp [show k < l.length by omega]
  rw [e]
  unfold pk
  rw [List.take_add_one (i := k + 1), List.getElem?_eq_getElem h]
  simp only [Option.toList, List.all_append, List.all_cons, List.all_nil, Bool.and_true, rises_snoc]
  have h1 : (l.take (k + 1)).isEmpty = false := by cases l <;> simp at h ⊢
  have h2 : (l.take (k + 1)).getLastD 0 = l[k] := by
   rw [List.getLastD_eq_getLast?, List.getLast?_take]
   simp [show k < l.length by omega]
  rw [h1, h2]
  unfold inB
  simp only [Bool.false_or, show (k + 1 == 0) = false from rfl]
  generalize (l.take (k + 1)).all (fun n => decide (0 ≤ n) && decide (n ≤ 1073741824)) = c
  generalize decide (0 ≤ l[k + 1]) = d
  generalize decide (l[k + 1] ≤ 1073741824) = d'
  generalize rises (l.take (k + 1)) = e
  generalize decide (l[k] < l[k + 1]) = f
  revert c d d' e f
  decide
theorem pk_down {l : List Int} {k : Nat} : ∀ n, k + n ≤ l.length → pk l (k + n) = true → pk l k = true
 | 0, _, h => h
 | n + 1, hn, h => by
  rw [show k + (n + 1) = (k + n) + 1 by omega, pk_step (by omega), Bool.and_eq_true] at h
  exact pk_down n (by omega) h.1
theorem pk_bad {l : List Int} {k : Nat} (hk : k < l.length) (h : pk l (k + 1) = false) : okL l = false := by
 rw [← pk_full]
 cases hp : pk l l.length with
 | false => simp
 | true =>
  have := pk_down (l := l) (k := k + 1) (l.length - (k + 1)) (by omega) (by rw [show k + 1 + (l.length - (k + 1)) = l.length by omega]; exact hp)
  rw [this] at h; simp at h
section
variable {R : Re → Store → Prop} {σ : Store} {l : List Int}
set_option maxHeartbeats 4000000 in
theorem C_rright (hl : l.length < 1000000000) (h : R (.ret (.bool (okL l))) σ) : C tE 45 [.lit (is l)] σ R := by
 have hll := is_len l
 refine C_pure tOK (by simp [pureL_is]) ?_
 refine C_bodyk tOK Tryz.func45 rfl (Nat.le_of_ble_eq_true rfl) fun K hK => ?_; simp
 repeat (first | (refine T_seqk fun K hK => ?_) | (refine T_reg tOK rfl ?_; simp) | (refine T_ret ?_; try simp) | (refine T_skip ?_; try simp) | (refine T_blockk fun K hK => ?_) | (with_reducible apply_assumption -exfalso -symm) | (rw [afterRF_ret]; simp) | (refine T_exit ?_; try simp) | (refine T_cond_t ?_ ?_; · (simp; done)) | (refine T_cond_f ?_ ?_; · (simp; done)) | (rintro _ _ (_ | _) hz9 <;> first | (simp; done) | (simp at hz9; done)) | (refine And.intro ?_ ?_) | (simp only [Post.block_ret, Post.block_exit, Post.block_normal, Post.block_pan, Post.seq_ret, Post.seq_exit, Post.seq_normal, Post.seq_pan]; try simp) | (refine T_draw tOK tmix [([], 0), ([], 1), ([0, 1], 2), ([0, 1, 2], 3), ([0, 1, 2, 3], 4), ([0, 1, 2, 3, 4], 5), ([0, 1, 2, 3, 4, 5], 6), ([0, 1, 2, 3, 4, 5], 7), ([0, 1, 2, 3, 4, 5, 6, 7], 8), ([0, 1, 2, 3, 4, 5, 6, 7, 8], 9), ([0, 1, 2, 3, 4, 5, 6, 7, 8, 9], 10), ([0, 1, 2, 3, 4, 5, 6, 7, 8, 9, 10], 11), ([0, 1, 2, 3, 4, 5, 6, 7, 8, 9, 10, 11], 12), ([0, 1, 2, 3, 4, 5, 6, 7, 8, 9, 10, 11, 12], 13), ([0, 1, 2, 3, 4, 5, 6, 7, 8, 9, 10, 11, 12, 13], 14), ([0, 1, 2, 3, 4, 5, 6, 7, 8, 9, 10, 11, 12, 13, 14], 15), ([0, 1, 2, 3, 4, 5, 6, 7, 8, 9, 10, 11, 12, 13, 14, 15], 16), ([0, 1, 2, 3, 4, 5, 6, 7, 8, 9, 10, 11, 12, 13, 14, 15], 17), ([0, 1, 2, 3, 4, 5, 6, 7, 8, 9, 10, 11, 12, 13, 14, 15, 16, 17], 18), ([0, 1, 2, 3, 4, 5, 6, 7, 8, 9, 10, 11, 12, 13, 14, 15, 16, 17, 18], 19), ([0, 1, 2, 3, 4, 5, 6, 7, 8, 9, 10, 11, 12, 13, 14, 15], 20), ([0, 1, 2, 3, 4, 5, 6, 7, 8, 9, 10, 11, 12, 13, 14, 15], 21), ([0, 1, 2, 3, 4, 5, 6, 7, 8, 9, 10, 11, 12, 13, 14, 15, 21], 22), ([0, 1, 2, 3, 4, 5, 6, 7, 8, 9, 10, 11, 12, 13, 14, 15, 20, 21, 22], 23), ([0, 1, 2, 3, 4, 5, 6, 7, 8, 9, 10, 11, 12, 13, 14, 15, 20, 21, 22, 23], 24), ([0, 1, 2, 3, 4, 5, 6, 7, 8, 9, 10, 11, 12, 13, 14, 15, 16, 17, 18, 19, 20, 21, 22, 23, 24], 25), ([0, 1, 2, 3, 4, 5, 6, 7, 8, 9, 10, 11, 12, 13, 14, 15, 16, 17, 18, 19, 20, 21, 22, 23, 24, 25], 26), ([0, 1, 2, 3, 4, 5, 6, 7, 8, 9, 10, 11, 12, 13, 14, 15, 16, 17, 18, 19, 20, 21, 22, 23, 24, 25, 26], 27)] 25 (by decide +kernel) ?_; simp))
 refine T_loop ?_
 refine TL_keep [0, 3] ?_
 simp [Fr.keep]
 refine TL_ix (fun k => [(0, .lit (is l)), (3, i64 k)]) (fun _ => []) l.length (fun k => pk l k = true) pk_zero ?_ ?_
 ·intro hp
  rw [← pk_full, hp, Bool.and_true] at h
  refine TL_round ?_
  have h1d : decide (1 ≤ (l.length : Int)) = decide (1 ≤ l.length) := by congr 1; simp; omega
  have h40 : decide ((l.length : Int) ≤ 40) = decide (l.length ≤ 40) := by congr 1; simp; omega
  cases h1 : decide (1 ≤ l.length) with
  | false =>
   rw [h1] at h1d h; rw [Bool.false_and] at h
   repeat (first | (refine T_seqk fun K hK => ?_) | (refine T_reg tOK rfl ?_; simp [hll,h1d]) | (refine T_ret ?_; try simp) | (refine T_skip ?_; try simp) | (refine T_blockk fun K hK => ?_) | (with_reducible apply_assumption -exfalso -symm) | (rw [afterRF_ret]; simp [hll,h1d]) | (refine T_exit ?_; try simp) | (refine T_cond_t ?_ ?_; · (simp; done)) | (refine T_cond_f ?_ ?_; · (simp; done)) | (rintro _ _ (_ | _) hz9 <;> first | (simp; done) | (simp at hz9; done)) | (refine And.intro ?_ ?_) | (simp only [Post.block_ret, Post.block_exit, Post.block_normal, Post.block_pan, Post.seq_ret, Post.seq_exit, Post.seq_normal, Post.seq_pan]; try simp [hll,h1d]) | (refine T_draw tOK tmix [([], 0), ([], 1), ([0, 1], 2), ([0, 1, 2], 3), ([0, 1, 2, 3], 4), ([0, 1, 2, 3, 4], 5), ([0, 1, 2, 3, 4, 5], 6), ([0, 1, 2, 3, 4, 5], 7), ([0, 1, 2, 3, 4, 5, 6, 7], 8), ([0, 1, 2, 3, 4, 5, 6, 7, 8], 9), ([0, 1, 2, 3, 4, 5, 6, 7, 8, 9], 10), ([0, 1, 2, 3, 4, 5, 6, 7, 8, 9, 10], 11), ([0, 1, 2, 3, 4, 5, 6, 7, 8, 9, 10, 11], 12), ([0, 1, 2, 3, 4, 5, 6, 7, 8, 9, 10, 11, 12], 13), ([0, 1, 2, 3, 4, 5, 6, 7, 8, 9, 10, 11, 12, 13], 14), ([0, 1, 2, 3, 4, 5, 6, 7, 8, 9, 10, 11, 12, 13, 14], 15), ([0, 1, 2, 3, 4, 5, 6, 7, 8, 9, 10, 11, 12, 13, 14, 15], 16), ([0, 1, 2, 3, 4, 5, 6, 7, 8, 9, 10, 11, 12, 13, 14, 15], 17), ([0, 1, 2, 3, 4, 5, 6, 7, 8, 9, 10, 11, 12, 13, 14, 15, 16, 17], 18), ([0, 1, 2, 3, 4, 5, 6, 7, 8, 9, 10, 11, 12, 13, 14, 15, 16, 17, 18], 19), ([0, 1, 2, 3, 4, 5, 6, 7, 8, 9, 10, 11, 12, 13, 14, 15], 20), ([0, 1, 2, 3, 4, 5, 6, 7, 8, 9, 10, 11, 12, 13, 14, 15], 21), ([0, 1, 2, 3, 4, 5, 6, 7, 8, 9, 10, 11, 12, 13, 14, 15, 21], 22), ([0, 1, 2, 3, 4, 5, 6, 7, 8, 9, 10, 11, 12, 13, 14, 15, 20, 21, 22], 23), ([0, 1, 2, 3, 4, 5, 6, 7, 8, 9, 10, 11, 12, 13, 14, 15, 20, 21, 22, 23], 24), ([0, 1, 2, 3, 4, 5, 6, 7, 8, 9, 10, 11, 12, 13, 14, 15, 16, 17, 18, 19, 20, 21, 22, 23, 24], 25), ([0, 1, 2, 3, 4, 5, 6, 7, 8, 9, 10, 11, 12, 13, 14, 15, 16, 17, 18, 19, 20, 21, 22, 23, 24, 25], 26), ([0, 1, 2, 3, 4, 5, 6, 7, 8, 9, 10, 11, 12, 13, 14, 15, 16, 17, 18, 19, 20, 21, 22, 23, 24, 25, 26], 27)] 25 (by decide +kernel) ?_; simp [hll,h1d]))
  | true =>
   rw [h1] at h1d h; rw [Bool.true_and] at h
   cases h2 : decide (l.length ≤ 40) with
   | false =>
    rw [h2] at h40 h
    repeat (first | (refine T_seqk fun K hK => ?_) | (refine T_reg tOK rfl ?_; simp [hll,h1d,h40]) | (refine T_ret ?_; try simp) | (refine T_skip ?_; try simp) | (refine T_blockk fun K hK => ?_) | (with_reducible apply_assumption -exfalso -symm) | (rw [afterRF_ret]; simp [hll,h1d,h40]) | (refine T_exit ?_; try simp) | (refine T_cond_t ?_ ?_; · (simp; done)) | (refine T_cond_f ?_ ?_; · (simp; done)) | (rintro _ _ (_ | _) hz9 <;> first | (simp; done) | (simp at hz9; done)) | (refine And.intro ?_ ?_) | (simp only [Post.block_ret, Post.block_exit, Post.block_normal, Post.block_pan, Post.seq_ret, Post.seq_exit, Post.seq_normal, Post.seq_pan]; try simp [hll,h1d,h40]) | (refine T_draw tOK tmix [([], 0), ([], 1), ([0, 1], 2), ([0, 1, 2], 3), ([0, 1, 2, 3], 4), ([0, 1, 2, 3, 4], 5), ([0, 1, 2, 3, 4, 5], 6), ([0, 1, 2, 3, 4, 5], 7), ([0, 1, 2, 3, 4, 5, 6, 7], 8), ([0, 1, 2, 3, 4, 5, 6, 7, 8], 9), ([0, 1, 2, 3, 4, 5, 6, 7, 8, 9], 10), ([0, 1, 2, 3, 4, 5, 6, 7, 8, 9, 10], 11), ([0, 1, 2, 3, 4, 5, 6, 7, 8, 9, 10, 11], 12), ([0, 1, 2, 3, 4, 5, 6, 7, 8, 9, 10, 11, 12], 13), ([0, 1, 2, 3, 4, 5, 6, 7, 8, 9, 10, 11, 12, 13], 14), ([0, 1, 2, 3, 4, 5, 6, 7, 8, 9, 10, 11, 12, 13, 14], 15), ([0, 1, 2, 3, 4, 5, 6, 7, 8, 9, 10, 11, 12, 13, 14, 15], 16), ([0, 1, 2, 3, 4, 5, 6, 7, 8, 9, 10, 11, 12, 13, 14, 15], 17), ([0, 1, 2, 3, 4, 5, 6, 7, 8, 9, 10, 11, 12, 13, 14, 15, 16, 17], 18), ([0, 1, 2, 3, 4, 5, 6, 7, 8, 9, 10, 11, 12, 13, 14, 15, 16, 17, 18], 19), ([0, 1, 2, 3, 4, 5, 6, 7, 8, 9, 10, 11, 12, 13, 14, 15], 20), ([0, 1, 2, 3, 4, 5, 6, 7, 8, 9, 10, 11, 12, 13, 14, 15], 21), ([0, 1, 2, 3, 4, 5, 6, 7, 8, 9, 10, 11, 12, 13, 14, 15, 21], 22), ([0, 1, 2, 3, 4, 5, 6, 7, 8, 9, 10, 11, 12, 13, 14, 15, 20, 21, 22], 23), ([0, 1, 2, 3, 4, 5, 6, 7, 8, 9, 10, 11, 12, 13, 14, 15, 20, 21, 22, 23], 24), ([0, 1, 2, 3, 4, 5, 6, 7, 8, 9, 10, 11, 12, 13, 14, 15, 16, 17, 18, 19, 20, 21, 22, 23, 24], 25), ([0, 1, 2, 3, 4, 5, 6, 7, 8, 9, 10, 11, 12, 13, 14, 15, 16, 17, 18, 19, 20, 21, 22, 23, 24, 25], 26), ([0, 1, 2, 3, 4, 5, 6, 7, 8, 9, 10, 11, 12, 13, 14, 15, 16, 17, 18, 19, 20, 21, 22, 23, 24, 25, 26], 27)] 25 (by decide +kernel) ?_; simp [hll,h1d,h40]))
   | true =>
    rw [h2] at h40 h
    repeat (first | (refine T_seqk fun K hK => ?_) | (refine T_reg tOK rfl ?_; simp [hll,h1d,h40]) | (refine T_ret ?_; try simp) | (refine T_skip ?_; try simp) | (refine T_blockk fun K hK => ?_) | (with_reducible apply_assumption -exfalso -symm) | (rw [afterRF_ret]; simp [hll,h1d,h40]) | (refine T_exit ?_; try simp) | (refine T_cond_t ?_ ?_; · (simp; done)) | (refine T_cond_f ?_ ?_; · (simp; done)) | (rintro _ _ (_ | _) hz9 <;> first | (simp; done) | (simp at hz9; done)) | (refine And.intro ?_ ?_) | (simp only [Post.block_ret, Post.block_exit, Post.block_normal, Post.block_pan, Post.seq_ret, Post.seq_exit, Post.seq_normal, Post.seq_pan]; try simp [hll,h1d,h40]) | (refine T_draw tOK tmix [([], 0), ([], 1), ([0, 1], 2), ([0, 1, 2], 3), ([0, 1, 2, 3], 4), ([0, 1, 2, 3, 4], 5), ([0, 1, 2, 3, 4, 5], 6), ([0, 1, 2, 3, 4, 5], 7), ([0, 1, 2, 3, 4, 5, 6, 7], 8), ([0, 1, 2, 3, 4, 5, 6, 7, 8], 9), ([0, 1, 2, 3, 4, 5, 6, 7, 8, 9], 10), ([0, 1, 2, 3, 4, 5, 6, 7, 8, 9, 10], 11), ([0, 1, 2, 3, 4, 5, 6, 7, 8, 9, 10, 11], 12), ([0, 1, 2, 3, 4, 5, 6, 7, 8, 9, 10, 11, 12], 13), ([0, 1, 2, 3, 4, 5, 6, 7, 8, 9, 10, 11, 12, 13], 14), ([0, 1, 2, 3, 4, 5, 6, 7, 8, 9, 10, 11, 12, 13, 14], 15), ([0, 1, 2, 3, 4, 5, 6, 7, 8, 9, 10, 11, 12, 13, 14, 15], 16), ([0, 1, 2, 3, 4, 5, 6, 7, 8, 9, 10, 11, 12, 13, 14, 15], 17), ([0, 1, 2, 3, 4, 5, 6, 7, 8, 9, 10, 11, 12, 13, 14, 15, 16, 17], 18), ([0, 1, 2, 3, 4, 5, 6, 7, 8, 9, 10, 11, 12, 13, 14, 15, 16, 17, 18], 19), ([0, 1, 2, 3, 4, 5, 6, 7, 8, 9, 10, 11, 12, 13, 14, 15], 20), ([0, 1, 2, 3, 4, 5, 6, 7, 8, 9, 10, 11, 12, 13, 14, 15], 21), ([0, 1, 2, 3, 4, 5, 6, 7, 8, 9, 10, 11, 12, 13, 14, 15, 21], 22), ([0, 1, 2, 3, 4, 5, 6, 7, 8, 9, 10, 11, 12, 13, 14, 15, 20, 21, 22], 23), ([0, 1, 2, 3, 4, 5, 6, 7, 8, 9, 10, 11, 12, 13, 14, 15, 20, 21, 22, 23], 24), ([0, 1, 2, 3, 4, 5, 6, 7, 8, 9, 10, 11, 12, 13, 14, 15, 16, 17, 18, 19, 20, 21, 22, 23, 24], 25), ([0, 1, 2, 3, 4, 5, 6, 7, 8, 9, 10, 11, 12, 13, 14, 15, 16, 17, 18, 19, 20, 21, 22, 23, 24, 25], 26), ([0, 1, 2, 3, 4, 5, 6, 7, 8, 9, 10, 11, 12, 13, 14, 15, 16, 17, 18, 19, 20, 21, 22, 23, 24, 25, 26], 27)] 25 (by decide +kernel) ?_; simp [hll,h1d,h40]))
 ·intro k hk hp ih
  have hkb : decide (k < l.length) = true := by simpa using hk
  have hwk : IntKind.i64.wrap ((k : Int) + 1) = ((k + 1 : Nat) : Int) := by rw [IntWalk.i64_in _ (by omega)]; omega
  have ek := is_get hk
  have lk : k < (is l).length := by omega
  have ek' := get_of ek lk
  have hstep := pk_step hk
  rw [hp, Bool.true_and] at hstep
  refine TL_round ?_
  refine T_seqkk [0, 3] [(0, .lit (is l)), (3, i64 k)] [] (fun K hK => ?_) ?_
  ·repeat (first | (refine T_seqk fun K hK => ?_) | (refine T_reg tOK rfl ?_; simp [hll,hkb,Fr.keep]) | (refine T_ret ?_; try simp) | (refine T_skip ?_; try simp) | (refine T_blockk fun K hK => ?_) | (with_reducible apply_assumption -exfalso -symm) | (rw [afterRF_ret]; simp [hll,hkb,Fr.keep]) | (refine T_exit ?_; try simp) | (refine T_cond_t ?_ ?_; · (simp; done)) | (refine T_cond_f ?_ ?_; · (simp; done)) | (rintro _ _ (_ | _) hz9 <;> first | (simp; done) | (simp at hz9; done)) | (refine And.intro ?_ ?_) | (simp only [Post.block_ret, Post.block_exit, Post.block_normal, Post.block_pan, Post.seq_ret, Post.seq_exit, Post.seq_normal, Post.seq_pan]; try simp [hll,hkb,Fr.keep]) | (refine T_draw tOK tmix [([], 0), ([], 1), ([0, 1], 2), ([0, 1, 2], 3), ([0, 1, 2, 3], 4), ([0, 1, 2, 3, 4], 5), ([0, 1, 2, 3, 4, 5], 6), ([0, 1, 2, 3, 4, 5], 7), ([0, 1, 2, 3, 4, 5, 6, 7], 8), ([0, 1, 2, 3, 4, 5, 6, 7, 8], 9), ([0, 1, 2, 3, 4, 5, 6, 7, 8, 9], 10), ([0, 1, 2, 3, 4, 5, 6, 7, 8, 9, 10], 11), ([0, 1, 2, 3, 4, 5, 6, 7, 8, 9, 10, 11], 12), ([0, 1, 2, 3, 4, 5, 6, 7, 8, 9, 10, 11, 12], 13), ([0, 1, 2, 3, 4, 5, 6, 7, 8, 9, 10, 11, 12, 13], 14), ([0, 1, 2, 3, 4, 5, 6, 7, 8, 9, 10, 11, 12, 13, 14], 15), ([0, 1, 2, 3, 4, 5, 6, 7, 8, 9, 10, 11, 12, 13, 14, 15], 16), ([0, 1, 2, 3, 4, 5, 6, 7, 8, 9, 10, 11, 12, 13, 14, 15], 17), ([0, 1, 2, 3, 4, 5, 6, 7, 8, 9, 10, 11, 12, 13, 14, 15, 16, 17], 18), ([0, 1, 2, 3, 4, 5, 6, 7, 8, 9, 10, 11, 12, 13, 14, 15, 16, 17, 18], 19), ([0, 1, 2, 3, 4, 5, 6, 7, 8, 9, 10, 11, 12, 13, 14, 15], 20), ([0, 1, 2, 3, 4, 5, 6, 7, 8, 9, 10, 11, 12, 13, 14, 15], 21), ([0, 1, 2, 3, 4, 5, 6, 7, 8, 9, 10, 11, 12, 13, 14, 15, 21], 22), ([0, 1, 2, 3, 4, 5, 6, 7, 8, 9, 10, 11, 12, 13, 14, 15, 20, 21, 22], 23), ([0, 1, 2, 3, 4, 5, 6, 7, 8, 9, 10, 11, 12, 13, 14, 15, 20, 21, 22, 23], 24), ([0, 1, 2, 3, 4, 5, 6, 7, 8, 9, 10, 11, 12, 13, 14, 15, 16, 17, 18, 19, 20, 21, 22, 23, 24], 25), ([0, 1, 2, 3, 4, 5, 6, 7, 8, 9, 10, 11, 12, 13, 14, 15, 16, 17, 18, 19, 20, 21, 22, 23, 24, 25], 26), ([0, 1, 2, 3, 4, 5, 6, 7, 8, 9, 10, 11, 12, 13, 14, 15, 16, 17, 18, 19, 20, 21, 22, 23, 24, 25, 26], 27)] 25 (by decide +kernel) ?_; simp [hll,hkb,Fr.keep]))
  have a1 : decide (l[k] < 0) = !decide (0 ≤ l[k]) := by rw [← decide_not]; congr 1; simp
  have a2 : decide (1073741824 < l[k]) = !decide (l[k] ≤ 1073741824) := by rw [← decide_not]; congr 1; simp
  cases hgood : pk l (k + 1) with
  | true =>
   replace ih := PLift.up (ih hgood)
   rw [hgood] at hstep
   have hstep := hstep.symm
   rw [Bool.and_eq_true, Bool.and_eq_true] at hstep
   obtain ⟨b1, b2, b3⟩ := hstep
   rw [b1] at a1
   rw [b2] at a2
   refine T_seqkf 0 [0, 3] [(0, .lit (is l)), (3, i64 k)] [] (by simp) (by simp [belowFr, belowB, belowL_of_pure 0 _ (pureL_is l)]) rfl (fun K hK => ?_) ?_
   ·refine T_blockk fun Q' hQ' => ?_
    refine T_seqk fun K2 hK2 => ?_
    refine T_draw tOK tmix [([], 0), ([], 1), ([0, 1], 2), ([0, 1, 2], 3), ([0, 1, 2, 3], 4), ([0, 1, 2, 3, 4], 5), ([0, 1, 2, 3, 4, 5], 6), ([0, 1, 2, 3, 4, 5], 7), ([0, 1, 2, 3, 4, 5, 6, 7], 8), ([0, 1, 2, 3, 4, 5, 6, 7, 8], 9), ([0, 1, 2, 3, 4, 5, 6, 7, 8, 9], 10), ([0, 1, 2, 3, 4, 5, 6, 7, 8, 9, 10], 11), ([0, 1, 2, 3, 4, 5, 6, 7, 8, 9, 10, 11], 12), ([0, 1, 2, 3, 4, 5, 6, 7, 8, 9, 10, 11, 12], 13), ([0, 1, 2, 3, 4, 5, 6, 7, 8, 9, 10, 11, 12, 13], 14), ([0, 1, 2, 3, 4, 5, 6, 7, 8, 9, 10, 11, 12, 13, 14], 15), ([0, 1, 2, 3, 4, 5, 6, 7, 8, 9, 10, 11, 12, 13, 14, 15], 16), ([0, 1, 2, 3, 4, 5, 6, 7, 8, 9, 10, 11, 12, 13, 14, 15], 17), ([0, 1, 2, 3, 4, 5, 6, 7, 8, 9, 10, 11, 12, 13, 14, 15, 16, 17], 18), ([0, 1, 2, 3, 4, 5, 6, 7, 8, 9, 10, 11, 12, 13, 14, 15, 16, 17, 18], 19), ([0, 1, 2, 3, 4, 5, 6, 7, 8, 9, 10, 11, 12, 13, 14, 15], 20), ([0, 1, 2, 3, 4, 5, 6, 7, 8, 9, 10, 11, 12, 13, 14, 15], 21), ([0, 1, 2, 3, 4, 5, 6, 7, 8, 9, 10, 11, 12, 13, 14, 15, 21], 22), ([0, 1, 2, 3, 4, 5, 6, 7, 8, 9, 10, 11, 12, 13, 14, 15, 20, 21, 22], 23), ([0, 1, 2, 3, 4, 5, 6, 7, 8, 9, 10, 11, 12, 13, 14, 15, 20, 21, 22, 23], 24), ([0, 1, 2, 3, 4, 5, 6, 7, 8, 9, 10, 11, 12, 13, 14, 15, 16, 17, 18, 19, 20, 21, 22, 23, 24], 25), ([0, 1, 2, 3, 4, 5, 6, 7, 8, 9, 10, 11, 12, 13, 14, 15, 16, 17, 18, 19, 20, 21, 22, 23, 24, 25], 26), ([0, 1, 2, 3, 4, 5, 6, 7, 8, 9, 10, 11, 12, 13, 14, 15, 16, 17, 18, 19, 20, 21, 22, 23, 24, 25, 26], 27)] 25 (by decide +kernel) ?_
    cases k with
    | zero =>
     try simp [-RF_cons, -RD_cons, ek,ek',lk,a1,a2]
     repeat (rw [RD_cons]; simp [-RF_cons, -RD_cons, ek,ek',lk,a1,a2])
     repeat (rw [RF_cons]; simp [-RF_cons, -RD_cons, ek,ek',lk,a1,a2])
     refine hK2 _ _ ?_
     repeat (first | (refine T_seqk fun K hK => ?_) | (refine T_reg tOK rfl ?_; simp) | (refine T_ret ?_; try simp) | (refine T_skip ?_; try simp) | (refine T_blockk fun K hK => ?_) | (with_reducible apply_assumption -exfalso -symm) | (rw [afterRF_ret]; simp) | (refine T_exit ?_; try simp) | (refine T_cond_t ?_ ?_; · (simp; done)) | (refine T_cond_f ?_ ?_; · (simp; done)) | (rintro _ _ (_ | _) hz9 <;> first | (simp; done) | (simp at hz9; done)) | (refine And.intro ?_ ?_) | (simp only [Post.block_ret, Post.block_exit, Post.block_normal, Post.block_pan, Post.seq_ret, Post.seq_exit, Post.seq_normal, Post.seq_pan]; try simp) | (refine T_draw tOK tmix [([], 0), ([], 1), ([0, 1], 2), ([0, 1, 2], 3), ([0, 1, 2, 3], 4), ([0, 1, 2, 3, 4], 5), ([0, 1, 2, 3, 4, 5], 6), ([0, 1, 2, 3, 4, 5], 7), ([0, 1, 2, 3, 4, 5, 6, 7], 8), ([0, 1, 2, 3, 4, 5, 6, 7, 8], 9), ([0, 1, 2, 3, 4, 5, 6, 7, 8, 9], 10), ([0, 1, 2, 3, 4, 5, 6, 7, 8, 9, 10], 11), ([0, 1, 2, 3, 4, 5, 6, 7, 8, 9, 10, 11], 12), ([0, 1, 2, 3, 4, 5, 6, 7, 8, 9, 10, 11, 12], 13), ([0, 1, 2, 3, 4, 5, 6, 7, 8, 9, 10, 11, 12, 13], 14), ([0, 1, 2, 3, 4, 5, 6, 7, 8, 9, 10, 11, 12, 13, 14], 15), ([0, 1, 2, 3, 4, 5, 6, 7, 8, 9, 10, 11, 12, 13, 14, 15], 16), ([0, 1, 2, 3, 4, 5, 6, 7, 8, 9, 10, 11, 12, 13, 14, 15], 17), ([0, 1, 2, 3, 4, 5, 6, 7, 8, 9, 10, 11, 12, 13, 14, 15, 16, 17], 18), ([0, 1, 2, 3, 4, 5, 6, 7, 8, 9, 10, 11, 12, 13, 14, 15, 16, 17, 18], 19), ([0, 1, 2, 3, 4, 5, 6, 7, 8, 9, 10, 11, 12, 13, 14, 15], 20), ([0, 1, 2, 3, 4, 5, 6, 7, 8, 9, 10, 11, 12, 13, 14, 15], 21), ([0, 1, 2, 3, 4, 5, 6, 7, 8, 9, 10, 11, 12, 13, 14, 15, 21], 22), ([0, 1, 2, 3, 4, 5, 6, 7, 8, 9, 10, 11, 12, 13, 14, 15, 20, 21, 22], 23), ([0, 1, 2, 3, 4, 5, 6, 7, 8, 9, 10, 11, 12, 13, 14, 15, 20, 21, 22, 23], 24), ([0, 1, 2, 3, 4, 5, 6, 7, 8, 9, 10, 11, 12, 13, 14, 15, 16, 17, 18, 19, 20, 21, 22, 23, 24], 25), ([0, 1, 2, 3, 4, 5, 6, 7, 8, 9, 10, 11, 12, 13, 14, 15, 16, 17, 18, 19, 20, 21, 22, 23, 24, 25], 26), ([0, 1, 2, 3, 4, 5, 6, 7, 8, 9, 10, 11, 12, 13, 14, 15, 16, 17, 18, 19, 20, 21, 22, 23, 24, 25, 26], 27)] 25 (by decide +kernel) ?_; simp))
     try (refine hQ' _ _ _ ?_; exact hK _ _ (by simp [Fr.keep]) (by simp))
    | succ k =>
     have hk' : k < l.length := by omega
     have fk := is_get hk'
     have mk : k < (is l).length := by omega
     have fk' := get_of fk mk
     have hwk' : IntKind.i64.wrap (k : Int) = (k : Int) := IntWalk.i64_in _ (by omega)
     have p1 : (0 : Int) ≤ (k : Int) + 1 := by omega
     have p2 : ((k : Int) + 1).toNat = k + 1 := by omega
     have p3 : decide ((0 : Int) < (k : Int) + 1) = true := decide_eq_true (by omega)
     rw [show (k + 1 == 0) = false from rfl, Bool.false_or, show l[k + 1 - 1]! = l[k] by simp [hk']] at b3
     have a3 : decide (l[k + 1] ≤ l[k]) = false := by simp at b3 ⊢; omega
     try simp [-RF_cons, -RD_cons, ek,ek',lk,a1,a2,a3,fk,fk',mk,hwk',p1,p2,p3]
     repeat (rw [RD_cons]; simp [-RF_cons, -RD_cons, ek,ek',lk,a1,a2,a3,fk,fk',mk,hwk',p1,p2,p3])
     repeat (rw [RF_cons]; simp [-RF_cons, -RD_cons, ek,ek',lk,a1,a2,a3,fk,fk',mk,hwk',p1,p2,p3])
     refine hK2 _ _ ?_
     repeat (first | (refine T_seqk fun K hK => ?_) | (refine T_reg tOK rfl ?_; simp) | (refine T_ret ?_; try simp) | (refine T_skip ?_; try simp) | (refine T_blockk fun K hK => ?_) | (with_reducible apply_assumption -exfalso -symm) | (rw [afterRF_ret]; simp) | (refine T_exit ?_; try simp) | (refine T_cond_t ?_ ?_; · (simp; done)) | (refine T_cond_f ?_ ?_; · (simp; done)) | (rintro _ _ (_ | _) hz9 <;> first | (simp; done) | (simp at hz9; done)) | (refine And.intro ?_ ?_) | (simp only [Post.block_ret, Post.block_exit, Post.block_normal, Post.block_pan, Post.seq_ret, Post.seq_exit, Post.seq_normal, Post.seq_pan]; try simp) | (refine T_draw tOK tmix [([], 0), ([], 1), ([0, 1], 2), ([0, 1, 2], 3), ([0, 1, 2, 3], 4), ([0, 1, 2, 3, 4], 5), ([0, 1, 2, 3, 4, 5], 6), ([0, 1, 2, 3, 4, 5], 7), ([0, 1, 2, 3, 4, 5, 6, 7], 8), ([0, 1, 2, 3, 4, 5, 6, 7, 8], 9), ([0, 1, 2, 3, 4, 5, 6, 7, 8, 9], 10), ([0, 1, 2, 3, 4, 5, 6, 7, 8, 9, 10], 11), ([0, 1, 2, 3, 4, 5, 6, 7, 8, 9, 10, 11], 12), ([0, 1, 2, 3, 4, 5, 6, 7, 8, 9, 10, 11, 12], 13), ([0, 1, 2, 3, 4, 5, 6, 7, 8, 9, 10, 11, 12, 13], 14), ([0, 1, 2, 3, 4, 5, 6, 7, 8, 9, 10, 11, 12, 13, 14], 15), ([0, 1, 2, 3, 4, 5, 6, 7, 8, 9, 10, 11, 12, 13, 14, 15], 16), ([0, 1, 2, 3, 4, 5, 6, 7, 8, 9, 10, 11, 12, 13, 14, 15], 17), ([0, 1, 2, 3, 4, 5, 6, 7, 8, 9, 10, 11, 12, 13, 14, 15, 16, 17], 18), ([0, 1, 2, 3, 4, 5, 6, 7, 8, 9, 10, 11, 12, 13, 14, 15, 16, 17, 18], 19), ([0, 1, 2, 3, 4, 5, 6, 7, 8, 9, 10, 11, 12, 13, 14, 15], 20), ([0, 1, 2, 3, 4, 5, 6, 7, 8, 9, 10, 11, 12, 13, 14, 15], 21), ([0, 1, 2, 3, 4, 5, 6, 7, 8, 9, 10, 11, 12, 13, 14, 15, 21], 22), ([0, 1, 2, 3, 4, 5, 6, 7, 8, 9, 10, 11, 12, 13, 14, 15, 20, 21, 22], 23), ([0, 1, 2, 3, 4, 5, 6, 7, 8, 9, 10, 11, 12, 13, 14, 15, 20, 21, 22, 23], 24), ([0, 1, 2, 3, 4, 5, 6, 7, 8, 9, 10, 11, 12, 13, 14, 15, 16, 17, 18, 19, 20, 21, 22, 23, 24], 25), ([0, 1, 2, 3, 4, 5, 6, 7, 8, 9, 10, 11, 12, 13, 14, 15, 16, 17, 18, 19, 20, 21, 22, 23, 24, 25], 26), ([0, 1, 2, 3, 4, 5, 6, 7, 8, 9, 10, 11, 12, 13, 14, 15, 16, 17, 18, 19, 20, 21, 22, 23, 24, 25, 26], 27)] 25 (by decide +kernel) ?_; simp))
     try (refine hQ' _ _ _ ?_; exact hK _ _ (by simp [Fr.keep]) (by simp))
   ·refine T_reg tOK rfl ?_
    simp [hwk]
    refine TL_keep [0, 3] ?_
    simp [Fr.keep]
    exact ih.down
  | false =>
   rw [pk_bad hk hgood] at h
   rw [hgood] at hstep
   clear ih
   refine T_seqk fun K1 hK1 => ?_
   refine T_blockk fun Q' hQ' => ?_
   refine T_seqk fun K2 hK2 => ?_
   refine T_draw tOK tmix [([], 0), ([], 1), ([0, 1], 2), ([0, 1, 2], 3), ([0, 1, 2, 3], 4), ([0, 1, 2, 3, 4], 5), ([0, 1, 2, 3, 4, 5], 6), ([0, 1, 2, 3, 4, 5], 7), ([0, 1, 2, 3, 4, 5, 6, 7], 8), ([0, 1, 2, 3, 4, 5, 6, 7, 8], 9), ([0, 1, 2, 3, 4, 5, 6, 7, 8, 9], 10), ([0, 1, 2, 3, 4, 5, 6, 7, 8, 9, 10], 11), ([0, 1, 2, 3, 4, 5, 6, 7, 8, 9, 10, 11], 12), ([0, 1, 2, 3, 4, 5, 6, 7, 8, 9, 10, 11, 12], 13), ([0, 1, 2, 3, 4, 5, 6, 7, 8, 9, 10, 11, 12, 13], 14), ([0, 1, 2, 3, 4, 5, 6, 7, 8, 9, 10, 11, 12, 13, 14], 15), ([0, 1, 2, 3, 4, 5, 6, 7, 8, 9, 10, 11, 12, 13, 14, 15], 16), ([0, 1, 2, 3, 4, 5, 6, 7, 8, 9, 10, 11, 12, 13, 14, 15], 17), ([0, 1, 2, 3, 4, 5, 6, 7, 8, 9, 10, 11, 12, 13, 14, 15, 16, 17], 18), ([0, 1, 2, 3, 4, 5, 6, 7, 8, 9, 10, 11, 12, 13, 14, 15, 16, 17, 18], 19), ([0, 1, 2, 3, 4, 5, 6, 7, 8, 9, 10, 11, 12, 13, 14, 15], 20), ([0, 1, 2, 3, 4, 5, 6, 7, 8, 9, 10, 11, 12, 13, 14, 15], 21), ([0, 1, 2, 3, 4, 5, 6, 7, 8, 9, 10, 11, 12, 13, 14, 15, 21], 22), ([0, 1, 2, 3, 4, 5, 6, 7, 8, 9, 10, 11, 12, 13, 14, 15, 20, 21, 22], 23), ([0, 1, 2, 3, 4, 5, 6, 7, 8, 9, 10, 11, 12, 13, 14, 15, 20, 21, 22, 23], 24), ([0, 1, 2, 3, 4, 5, 6, 7, 8, 9, 10, 11, 12, 13, 14, 15, 16, 17, 18, 19, 20, 21, 22, 23, 24], 25), ([0, 1, 2, 3, 4, 5, 6, 7, 8, 9, 10, 11, 12, 13, 14, 15, 16, 17, 18, 19, 20, 21, 22, 23, 24, 25], 26), ([0, 1, 2, 3, 4, 5, 6, 7, 8, 9, 10, 11, 12, 13, 14, 15, 16, 17, 18, 19, 20, 21, 22, 23, 24, 25, 26], 27)] 25 (by decide +kernel) ?_
   cases b1 : decide (0 ≤ l[k]) with
   | false =>
    rw [b1] at a1
    try simp [-RF_cons, -RD_cons, ek,ek',lk,a1,a2]
    repeat (rw [RD_cons]; simp [-RF_cons, -RD_cons, ek,ek',lk,a1,a2])
    repeat (rw [RF_cons]; simp [-RF_cons, -RD_cons, ek,ek',lk,a1,a2])
    refine hK2 _ _ ?_
    repeat (first | (refine T_seqk fun K hK => ?_) | (refine T_reg tOK rfl ?_; simp) | (refine T_ret ?_; try simp) | (refine T_skip ?_; try simp) | (refine T_blockk fun K hK => ?_) | (with_reducible apply_assumption -exfalso -symm) | (rw [afterRF_ret]; simp) | (refine T_exit ?_; try simp) | (refine T_cond_t ?_ ?_; · (simp; done)) | (refine T_cond_f ?_ ?_; · (simp; done)) | (rintro _ _ (_ | _) hz9 <;> first | (simp; done) | (simp at hz9; done)) | (refine And.intro ?_ ?_) | (simp only [Post.block_ret, Post.block_exit, Post.block_normal, Post.block_pan, Post.seq_ret, Post.seq_exit, Post.seq_normal, Post.seq_pan]; try simp) | (refine T_draw tOK tmix [([], 0), ([], 1), ([0, 1], 2), ([0, 1, 2], 3), ([0, 1, 2, 3], 4), ([0, 1, 2, 3, 4], 5), ([0, 1, 2, 3, 4, 5], 6), ([0, 1, 2, 3, 4, 5], 7), ([0, 1, 2, 3, 4, 5, 6, 7], 8), ([0, 1, 2, 3, 4, 5, 6, 7, 8], 9), ([0, 1, 2, 3, 4, 5, 6, 7, 8, 9], 10), ([0, 1, 2, 3, 4, 5, 6, 7, 8, 9, 10], 11), ([0, 1, 2, 3, 4, 5, 6, 7, 8, 9, 10, 11], 12), ([0, 1, 2, 3, 4, 5, 6, 7, 8, 9, 10, 11, 12], 13), ([0, 1, 2, 3, 4, 5, 6, 7, 8, 9, 10, 11, 12, 13], 14), ([0, 1, 2, 3, 4, 5, 6, 7, 8, 9, 10, 11, 12, 13, 14], 15), ([0, 1, 2, 3, 4, 5, 6, 7, 8, 9, 10, 11, 12, 13, 14, 15], 16), ([0, 1, 2, 3, 4, 5, 6, 7, 8, 9, 10, 11, 12, 13, 14, 15], 17), ([0, 1, 2, 3, 4, 5, 6, 7, 8, 9, 10, 11, 12, 13, 14, 15, 16, 17], 18), ([0, 1, 2, 3, 4, 5, 6, 7, 8, 9, 10, 11, 12, 13, 14, 15, 16, 17, 18], 19), ([0, 1, 2, 3, 4, 5, 6, 7, 8, 9, 10, 11, 12, 13, 14, 15], 20), ([0, 1, 2, 3, 4, 5, 6, 7, 8, 9, 10, 11, 12, 13, 14, 15], 21), ([0, 1, 2, 3, 4, 5, 6, 7, 8, 9, 10, 11, 12, 13, 14, 15, 21], 22), ([0, 1, 2, 3, 4, 5, 6, 7, 8, 9, 10, 11, 12, 13, 14, 15, 20, 21, 22], 23), ([0, 1, 2, 3, 4, 5, 6, 7, 8, 9, 10, 11, 12, 13, 14, 15, 20, 21, 22, 23], 24), ([0, 1, 2, 3, 4, 5, 6, 7, 8, 9, 10, 11, 12, 13, 14, 15, 16, 17, 18, 19, 20, 21, 22, 23, 24], 25), ([0, 1, 2, 3, 4, 5, 6, 7, 8, 9, 10, 11, 12, 13, 14, 15, 16, 17, 18, 19, 20, 21, 22, 23, 24, 25], 26), ([0, 1, 2, 3, 4, 5, 6, 7, 8, 9, 10, 11, 12, 13, 14, 15, 16, 17, 18, 19, 20, 21, 22, 23, 24, 25, 26], 27)] 25 (by decide +kernel) ?_; simp))
   | true =>
    rw [b1] at a1 hstep
    rw [Bool.true_and] at hstep
    cases b2 : decide (l[k] ≤ 1073741824) with
    | false =>
     rw [b2] at a2
     try simp [-RF_cons, -RD_cons, ek,ek',lk,a1,a2]
     repeat (rw [RD_cons]; simp [-RF_cons, -RD_cons, ek,ek',lk,a1,a2])
     repeat (rw [RF_cons]; simp [-RF_cons, -RD_cons, ek,ek',lk,a1,a2])
     refine hK2 _ _ ?_
     repeat (first | (refine T_seqk fun K hK => ?_) | (refine T_reg tOK rfl ?_; simp) | (refine T_ret ?_; try simp) | (refine T_skip ?_; try simp) | (refine T_blockk fun K hK => ?_) | (with_reducible apply_assumption -exfalso -symm) | (rw [afterRF_ret]; simp) | (refine T_exit ?_; try simp) | (refine T_cond_t ?_ ?_; · (simp; done)) | (refine T_cond_f ?_ ?_; · (simp; done)) | (rintro _ _ (_ | _) hz9 <;> first | (simp; done) | (simp at hz9; done)) | (refine And.intro ?_ ?_) | (simp only [Post.block_ret, Post.block_exit, Post.block_normal, Post.block_pan, Post.seq_ret, Post.seq_exit, Post.seq_normal, Post.seq_pan]; try simp) | (refine T_draw tOK tmix [([], 0), ([], 1), ([0, 1], 2), ([0, 1, 2], 3), ([0, 1, 2, 3], 4), ([0, 1, 2, 3, 4], 5), ([0, 1, 2, 3, 4, 5], 6), ([0, 1, 2, 3, 4, 5], 7), ([0, 1, 2, 3, 4, 5, 6, 7], 8), ([0, 1, 2, 3, 4, 5, 6, 7, 8], 9), ([0, 1, 2, 3, 4, 5, 6, 7, 8, 9], 10), ([0, 1, 2, 3, 4, 5, 6, 7, 8, 9, 10], 11), ([0, 1, 2, 3, 4, 5, 6, 7, 8, 9, 10, 11], 12), ([0, 1, 2, 3, 4, 5, 6, 7, 8, 9, 10, 11, 12], 13), ([0, 1, 2, 3, 4, 5, 6, 7, 8, 9, 10, 11, 12, 13], 14), ([0, 1, 2, 3, 4, 5, 6, 7, 8, 9, 10, 11, 12, 13, 14], 15), ([0, 1, 2, 3, 4, 5, 6, 7, 8, 9, 10, 11, 12, 13, 14, 15], 16), ([0, 1, 2, 3, 4, 5, 6, 7, 8, 9, 10, 11, 12, 13, 14, 15], 17), ([0, 1, 2, 3, 4, 5, 6, 7, 8, 9, 10, 11, 12, 13, 14, 15, 16, 17], 18), ([0, 1, 2, 3, 4, 5, 6, 7, 8, 9, 10, 11, 12, 13, 14, 15, 16, 17, 18], 19), ([0, 1, 2, 3, 4, 5, 6, 7, 8, 9, 10, 11, 12, 13, 14, 15], 20), ([0, 1, 2, 3, 4, 5, 6, 7, 8, 9, 10, 11, 12, 13, 14, 15], 21), ([0, 1, 2, 3, 4, 5, 6, 7, 8, 9, 10, 11, 12, 13, 14, 15, 21], 22), ([0, 1, 2, 3, 4, 5, 6, 7, 8, 9, 10, 11, 12, 13, 14, 15, 20, 21, 22], 23), ([0, 1, 2, 3, 4, 5, 6, 7, 8, 9, 10, 11, 12, 13, 14, 15, 20, 21, 22, 23], 24), ([0, 1, 2, 3, 4, 5, 6, 7, 8, 9, 10, 11, 12, 13, 14, 15, 16, 17, 18, 19, 20, 21, 22, 23, 24], 25), ([0, 1, 2, 3, 4, 5, 6, 7, 8, 9, 10, 11, 12, 13, 14, 15, 16, 17, 18, 19, 20, 21, 22, 23, 24, 25], 26), ([0, 1, 2, 3, 4, 5, 6, 7, 8, 9, 10, 11, 12, 13, 14, 15, 16, 17, 18, 19, 20, 21, 22, 23, 24, 25, 26], 27)] 25 (by decide +kernel) ?_; simp))
    | true =>
     rw [b2] at a2 hstep
     rw [Bool.true_and] at hstep
     cases k with
     | zero => simp at hstep
     | succ k =>
      have hk' : k < l.length := by omega
      have fk := is_get hk'
      have mk : k < (is l).length := by omega
      have fk' := get_of fk mk
      have hwk' : IntKind.i64.wrap (k : Int) = (k : Int) := IntWalk.i64_in _ (by omega)
      have p1 : (0 : Int) ≤ (k : Int) + 1 := by omega
      have p2 : ((k : Int) + 1).toNat = k + 1 := by omega
      have p3 : decide ((0 : Int) < (k : Int) + 1) = true := decide_eq_true (by omega)
      rw [show (k + 1 == 0) = false from rfl, Bool.false_or, show l[k + 1 - 1]! = l[k] by simp [hk']] at hstep
      have a3 : decide (l[k + 1] ≤ l[k]) = true := by
       have := hstep.symm
       simp at this ⊢; omega
      try simp [-RF_cons, -RD_cons, ek,ek',lk,a1,a2,a3,fk,fk',mk,hwk',p1,p2,p3]
      repeat (rw [RD_cons]; simp [-RF_cons, -RD_cons, ek,ek',lk,a1,a2,a3,fk,fk',mk,hwk',p1,p2,p3])
      repeat (rw [RF_cons]; simp [-RF_cons, -RD_cons, ek,ek',lk,a1,a2,a3,fk,fk',mk,hwk',p1,p2,p3])
      refine hK2 _ _ ?_
      repeat (first | (refine T_seqk fun K hK => ?_) | (refine T_reg tOK rfl ?_; simp) | (refine T_ret ?_; try simp) | (refine T_skip ?_; try simp) | (refine T_blockk fun K hK => ?_) | (with_reducible apply_assumption -exfalso -symm) | (rw [afterRF_ret]; simp) | (refine T_exit ?_; try simp) | (refine T_cond_t ?_ ?_; · (simp; done)) | (refine T_cond_f ?_ ?_; · (simp; done)) | (rintro _ _ (_ | _) hz9 <;> first | (simp; done) | (simp at hz9; done)) | (refine And.intro ?_ ?_) | (simp only [Post.block_ret, Post.block_exit, Post.block_normal, Post.block_pan, Post.seq_ret, Post.seq_exit, Post.seq_normal, Post.seq_pan]; try simp) | (refine T_draw tOK tmix [([], 0), ([], 1), ([0, 1], 2), ([0, 1, 2], 3), ([0, 1, 2, 3], 4), ([0, 1, 2, 3, 4], 5), ([0, 1, 2, 3, 4, 5], 6), ([0, 1, 2, 3, 4, 5], 7), ([0, 1, 2, 3, 4, 5, 6, 7], 8), ([0, 1, 2, 3, 4, 5, 6, 7, 8], 9), ([0, 1, 2, 3, 4, 5, 6, 7, 8, 9], 10), ([0, 1, 2, 3, 4, 5, 6, 7, 8, 9, 10], 11), ([0, 1, 2, 3, 4, 5, 6, 7, 8, 9, 10, 11], 12), ([0, 1, 2, 3, 4, 5, 6, 7, 8, 9, 10, 11, 12], 13), ([0, 1, 2, 3, 4, 5, 6, 7, 8, 9, 10, 11, 12, 13], 14), ([0, 1, 2, 3, 4, 5, 6, 7, 8, 9, 10, 11, 12, 13, 14], 15), ([0, 1, 2, 3, 4, 5, 6, 7, 8, 9, 10, 11, 12, 13, 14, 15], 16), ([0, 1, 2, 3, 4, 5, 6, 7, 8, 9, 10, 11, 12, 13, 14, 15], 17), ([0, 1, 2, 3, 4, 5, 6, 7, 8, 9, 10, 11, 12, 13, 14, 15, 16, 17], 18), ([0, 1, 2, 3, 4, 5, 6, 7, 8, 9, 10, 11, 12, 13, 14, 15, 16, 17, 18], 19), ([0, 1, 2, 3, 4, 5, 6, 7, 8, 9, 10, 11, 12, 13, 14, 15], 20), ([0, 1, 2, 3, 4, 5, 6, 7, 8, 9, 10, 11, 12, 13, 14, 15], 21), ([0, 1, 2, 3, 4, 5, 6, 7, 8, 9, 10, 11, 12, 13, 14, 15, 21], 22), ([0, 1, 2, 3, 4, 5, 6, 7, 8, 9, 10, 11, 12, 13, 14, 15, 20, 21, 22], 23), ([0, 1, 2, 3, 4, 5, 6, 7, 8, 9, 10, 11, 12, 13, 14, 15, 20, 21, 22, 23], 24), ([0, 1, 2, 3, 4, 5, 6, 7, 8, 9, 10, 11, 12, 13, 14, 15, 16, 17, 18, 19, 20, 21, 22, 23, 24], 25), ([0, 1, 2, 3, 4, 5, 6, 7, 8, 9, 10, 11, 12, 13, 14, 15, 16, 17, 18, 19, 20, 21, 22, 23, 24, 25], 26), ([0, 1, 2, 3, 4, 5, 6, 7, 8, 9, 10, 11, 12, 13, 14, 15, 16, 17, 18, 19, 20, 21, 22, 23, 24, 25, 26], 27)] 25 (by decide +kernel) ?_; simp))
end
section
variable {R : Re → Store → Prop} {σ : Store}
theorem tm256 (m : Nat) : (m : Int).tmod 256 = ((m % 256 : Nat) : Int) := rfl
theorem td256 (m : Nat) : (m : Int).tdiv 256 = ((m / 256 : Nat) : Int) := rfl
set_option maxHeartbeats 2000000 in
theorem C_number4 {n : Nat} (hn : n < 4294967296) (h : R (.ret (u8s (be4 n))) σ) : C tE 75 [.int .u64 n, i64 4] σ R := by
 have e3 : IntKind.u8.wrap ((n % 256 : Nat) : Int) = ((UInt8.ofNat n).toNat : Int) := by rw [IntKind.wrap_u8]; simp
 have e2 : IntKind.u8.wrap ((n / 256 % 256 : Nat) : Int) = ((UInt8.ofNat (n / 256)).toNat : Int) := by rw [IntKind.wrap_u8]; simp
 have i3 : IntKind.i64.wrap 3 = 3 := by decide
 have i2 : IntKind.i64.wrap 2 = 2 := by decide
 have i1 : IntKind.i64.wrap 1 = 1 := by decide
 have i0 : IntKind.i64.wrap 0 = 0 := by decide
 have im : IntKind.i64.wrap (-1) = -1 := by decide
 refine C_pure tOK rfl ?_
 refine C_bodyk tOK Tryz.func75 rfl (Nat.le_of_ble_eq_true rfl) fun K hK => ?_; simp
 repeat (first | (refine T_seqk fun K hK => ?_) | (refine T_reg tOK rfl ?_; simp [tm256,td256,i3,i2,i1,i0,im]) | (refine T_ret ?_; try simp) | (refine T_skip ?_; try simp) | (refine T_blockk fun K hK => ?_) | (with_reducible apply_assumption -exfalso -symm) | (rw [afterRF_ret]; simp [tm256,td256,i3,i2,i1,i0,im]) | (refine T_exit ?_; try simp) | (refine T_cond_t ?_ ?_; · (simp; done)) | (refine T_cond_f ?_ ?_; · (simp; done)) | (rintro _ _ (_ | _) hz9 <;> first | (simp; done) | (simp at hz9; done)) | (refine And.intro ?_ ?_) | (simp only [Post.block_ret, Post.block_exit, Post.block_normal, Post.block_pan, Post.seq_ret, Post.seq_exit, Post.seq_normal, Post.seq_pan]; try simp [tm256,td256,i3,i2,i1,i0,im]) | (refine T_loop (TL_round ?_)) | (refine TL_round ?_))
 have u (m : Nat) (hm : m < 18446744073709551616) : IntKind.u64.wrap (m : Int) = (m : Int) := by
  rw [IntKind.wrap_u64]; omega
 have k1 : IntKind.u64.wrap ((n : Int) / 256) = ((n / 256 : Nat) : Int) := by rw [← u (n / 256) (by omega)]; congr 1
 have k2 : IntKind.u64.wrap ((n / 256 / 256 : Nat) : Int) = ((n / 256 / 256 : Nat) : Int) := u _ (by omega)
 have k3 : IntKind.u64.wrap ((n / 256 / 256 / 256 : Nat) : Int) = ((n / 256 / 256 / 256 : Nat) : Int) := u _ (by omega)
 have e (m : Nat) : IntKind.u8.wrap ((m % 256 : Nat) : Int) = ((UInt8.ofNat m).toNat : Int) := by rw [IntKind.wrap_u8]; simp
 have e0 : IntKind.u8.wrap ((n : Int) % 256) = ((UInt8.ofNat n).toNat : Int) := by rw [← e]; congr 1
 rw [k1, td256, k2, td256, k3, tm256, tm256, tm256, e, e, e, e0]
 have q2 : n / 256 / 256 = n / 65536 := by omega
 have q3 : n / 256 / 256 / 256 = n / 16777216 := by omega
 rw [q3, q2]
 simp [frzRe, frz, -UInt8.toNat_ofNat']
 exact h
set_option maxHeartbeats 2000000 in
theorem C_read4 {a b c d : UInt8} (h : R (.ret (.int .u64 (a.toNat * 16777216 + b.toNat * 65536 + c.toNat * 256 + d.toNat : Nat))) σ) : C tE 77 [u8s [a, b, c, d]] σ R := by
 have ha := a.toNat_lt
 have hb := b.toNat_lt
 have hc := c.toNat_lt
 have hd := d.toNat_lt
 have i1 : IntKind.i64.wrap 1 = 1 := by decide
 have i2 : IntKind.i64.wrap 2 = 2 := by decide
 have i3 : IntKind.i64.wrap 3 = 3 := by decide
 have i4 : IntKind.i64.wrap 4 = 4 := by decide
 refine C_pure tOK (by simp [pureL_u8]) ?_
 simp only [u8s, u8l, List.map_cons, List.map_nil]
 refine C_bodyk tOK Tryz.func77 rfl (Nat.le_of_ble_eq_true rfl) fun K hK => ?_; simp
 repeat (first | (refine T_seqk fun K hK => ?_) | (refine T_reg tOK rfl ?_; simp [i1,i2,i3,i4]) | (refine T_ret ?_; try simp) | (refine T_skip ?_; try simp) | (refine T_blockk fun K hK => ?_) | (with_reducible apply_assumption -exfalso -symm) | (rw [afterRF_ret]; simp [i1,i2,i3,i4]) | (refine T_exit ?_; try simp) | (refine T_cond_t ?_ ?_; · (simp; done)) | (refine T_cond_f ?_ ?_; · (simp; done)) | (rintro _ _ (_ | _) hz9 <;> first | (simp; done) | (simp at hz9; done)) | (refine And.intro ?_ ?_) | (simp only [Post.block_ret, Post.block_exit, Post.block_normal, Post.block_pan, Post.seq_ret, Post.seq_exit, Post.seq_normal, Post.seq_pan]; try simp [i1,i2,i3,i4]) | (refine T_loop (TL_round ?_)) | (refine TL_round ?_))
 have e : IntKind.u64.wrap (IntKind.u64.wrap (IntKind.u64.wrap (IntKind.u64.wrap (IntKind.u64.wrap (IntKind.u64.wrap (IntKind.u64.wrap (IntKind.u64.wrap 0 + IntKind.u64.wrap (a.toNat : Int)) * 256) + IntKind.u64.wrap (b.toNat : Int)) * 256) + IntKind.u64.wrap (c.toNat : Int)) * 256) + IntKind.u64.wrap (d.toNat : Int)) = ((a.toNat * 16777216 + b.toNat * 65536 + c.toNat * 256 + d.toNat : Nat) : Int) := by
  simp only [IntKind.wrap_u64]
  omega
 rw [e]
 exact h
end
section
variable {R : Re → Store → Prop} {σ : Store}
theorem C_rof_ref {b g n : Nat} {l : List UInt8} (hb : Store.at σ b = some (.cells 5 g (u8l l))) (hn : n = l.length) (hl : l.length < 1000000000) (h : R (.ret (.int .u32 (crc l : Nat))) σ) : C tE 76 [.ref b g 0 n] σ R := by
 refine C_lend tOK (args' := [u8s l]) ?_ (C_rof hl ⟨rfl, h⟩)
 simp only [List.mapM_cons, List.mapM_nil]
 rw [frz_u8row hb hn]; rfl
set_option maxHeartbeats 1000000 in
theorem C_rput {l : List Int} (hl : l.length < 1000000000) (h : R (.ret (u8s (manPut l))) σ) : C tE 47 [.lit (is l)] σ R := by
 have hll := is_len l
 refine C_pure tOK (by simp [pureL_is]) ?_
 unfold manPut at h
 cases c : okL l with
 | false =>
  rw [c] at h
  refine C_bodyk tOK Tryz.func47 rfl (Nat.le_of_ble_eq_true rfl) fun K hK => ?_; simp
  repeat (first | (refine T_seqk fun K hK => ?_) | (refine T_reg tOK rfl ?_; simp) | (refine T_ret ?_; try simp) | (refine T_skip ?_; try simp) | (refine T_blockk fun K hK => ?_) | (with_reducible apply_assumption -exfalso -symm) | (rw [afterRF_ret]; simp) | (refine T_exit ?_; try simp) | (refine T_cond_t ?_ ?_; · (simp; done)) | (refine T_cond_f ?_ ?_; · (simp; done)) | (rintro _ _ (_ | _) hz9 <;> first | (simp; done) | (simp at hz9; done)) | (refine And.intro ?_ ?_) | (simp only [Post.block_ret, Post.block_exit, Post.block_normal, Post.block_pan, Post.seq_ret, Post.seq_exit, Post.seq_normal, Post.seq_pan]; try simp) | (refine T_loop (TL_round ?_)) | (refine TL_round ?_))
  refine C_rright hl ?_
  rw [c]
  repeat (first | (refine T_seqk fun K hK => ?_) | (refine T_reg tOK rfl ?_; simp) | (refine T_ret ?_; try simp) | (refine T_skip ?_; try simp) | (refine T_blockk fun K hK => ?_) | (with_reducible apply_assumption -exfalso -symm) | (rw [afterRF_ret]; simp) | (refine T_exit ?_; try simp) | (refine T_cond_t ?_ ?_; · (simp; done)) | (refine T_cond_f ?_ ?_; · (simp; done)) | (rintro _ _ (_ | _) hz9 <;> first | (simp; done) | (simp at hz9; done)) | (refine And.intro ?_ ?_) | (simp only [Post.block_ret, Post.block_exit, Post.block_normal, Post.block_pan, Post.seq_ret, Post.seq_exit, Post.seq_normal, Post.seq_pan]; try simp) | (refine T_loop (TL_round ?_)) | (refine TL_round ?_))
 | true =>
  rw [c, if_pos rfl] at h
  have hin : l.all inB = true := by unfold okL at c; simp only [Bool.and_eq_true] at c; exact c.1.2
  have h40 : l.length ≤ 40 := by unfold okL at c; simp only [Bool.and_eq_true, decide_eq_true_eq] at c; exact c.1.1.2
  have hw := wrap8n l.length
  refine C_bodyk tOK Tryz.func47 rfl (Nat.le_of_ble_eq_true rfl) fun K hK => ?_; simp
  repeat (first | (refine T_seqk fun K hK => ?_) | (refine T_reg tOK rfl ?_; simp [hll]) | (refine T_ret ?_; try simp) | (refine T_skip ?_; try simp) | (refine T_blockk fun K hK => ?_) | (with_reducible apply_assumption -exfalso -symm) | (rw [afterRF_ret]; simp [hll]) | (refine T_exit ?_; try simp) | (refine T_cond_t ?_ ?_; · (simp; done)) | (refine T_cond_f ?_ ?_; · (simp; done)) | (rintro _ _ (_ | _) hz9 <;> first | (simp; done) | (simp at hz9; done)) | (refine And.intro ?_ ?_) | (simp only [Post.block_ret, Post.block_exit, Post.block_normal, Post.block_pan, Post.seq_ret, Post.seq_exit, Post.seq_normal, Post.seq_pan]; try simp [hll]))
  refine C_rright hl ?_
  rw [c]
  repeat (first | (refine T_seqk fun K hK => ?_) | (refine T_reg tOK rfl ?_; simp [hll,hw,-UInt8.toNat_ofNat']) | (refine T_ret ?_; try simp) | (refine T_skip ?_; try simp) | (refine T_blockk fun K hK => ?_) | (with_reducible apply_assumption -exfalso -symm) | (rw [afterRF_ret]; simp [hll,hw,-UInt8.toNat_ofNat']) | (refine T_exit ?_; try simp) | (refine T_cond_t ?_ ?_; · (simp; done)) | (refine T_cond_f ?_ ?_; · (simp; done)) | (rintro _ _ (_ | _) hz9 <;> first | (simp; done) | (simp at hz9; done)) | (refine And.intro ?_ ?_) | (simp only [Post.block_ret, Post.block_exit, Post.block_normal, Post.block_pan, Post.seq_ret, Post.seq_exit, Post.seq_normal, Post.seq_pan]; try simp [hll,hw,-UInt8.toNat_ofNat']))
  refine T_loop ?_
  refine TL_keep [0, 3, 4] ?_
  simp [Fr.keep,-UInt8.toNat_ofNat']
  refine TL_ix (fun k => [(0, .lit (is l)), (3, .ref 0 k 0 (4 * k + 1)), (4, i64 k)]) (fun k => [some (.cells 5 k (u8l (UInt8.ofNat l.length :: mbody (l.take k))))]) l.length (fun _ => True) trivial (fun _ => ?_) (fun k hk _ ih => ?_)
  ·rw [List.take_length]
   have hml := mbody_len l
   have hol : (UInt8.ofNat l.length :: mbody l).length = 4 * l.length + 1 := by simp [hml]
   have hq : 2 * (4 * l.length + 1 + 4) + 1000 ≤ 281474976710656 := by omega
   have htk : (u8l (mout l)).take (4 * l.length + 1) = u8l (mout l) := List.take_of_length_le (by rw [u8l_len, mout, hol]; exact Nat.le_refl _)
   have hol2 : (u8l (mout l)).length = 4 * l.length + 1 := by rw [u8l_len, mout, hol]
   have hb4 : (u8l (be4 (crc (mout l)))).length = 4 := rfl
   have happ := (u8l_app (mout l) (be4 (crc (mout l)))).symm
   rw [show UInt8.ofNat l.length :: mbody l = mout l from rfl]
   refine TL_round ?_
   repeat (first | (refine T_seqk fun K hK => ?_) | (refine T_reg tOK rfl ?_; simp [hll]) | (refine T_ret ?_; try simp) | (refine T_skip ?_; try simp) | (refine T_blockk fun K hK => ?_) | (with_reducible apply_assumption -exfalso -symm) | (rw [afterRF_ret]; simp [hll]) | (refine T_exit ?_; try simp) | (refine T_cond_t ?_ ?_; · (simp; done)) | (refine T_cond_f ?_ ?_; · (simp; done)) | (rintro _ _ (_ | _) hz9 <;> first | (simp; done) | (simp at hz9; done)) | (refine And.intro ?_ ?_) | (simp only [Post.block_ret, Post.block_exit, Post.block_normal, Post.block_pan, Post.seq_ret, Post.seq_exit, Post.seq_normal, Post.seq_pan]; try simp [hll]))
   refine C_rof_ref (l := mout l) rfl (by rw [mout, hol]) (by rw [mout, hol]; omega) ?_
   repeat (first | (refine T_seqk fun K hK => ?_) | (refine T_reg tOK rfl ?_; simp [hll]) | (refine T_ret ?_; try simp) | (refine T_skip ?_; try simp) | (refine T_blockk fun K hK => ?_) | (with_reducible apply_assumption -exfalso -symm) | (rw [afterRF_ret]; simp [hll]) | (refine T_exit ?_; try simp) | (refine T_cond_t ?_ ?_; · (simp; done)) | (refine T_cond_f ?_ ?_; · (simp; done)) | (rintro _ _ (_ | _) hz9 <;> first | (simp; done) | (simp at hz9; done)) | (refine And.intro ?_ ?_) | (simp only [Post.block_ret, Post.block_exit, Post.block_normal, Post.block_pan, Post.seq_ret, Post.seq_exit, Post.seq_normal, Post.seq_pan]; try simp [hll]))
   have hw64 : IntKind.u64.wrap ((crc (mout l) : Nat) : Int) = (crc (mout l) : Nat) := by
    have := crc_lt (mout l)
    rw [IntKind.wrap_u64]; omega
   try rw [hw64]
   refine C_number4 (crc_lt _) ?_
   repeat (first | (refine T_seqk fun K hK => ?_) | (refine T_reg tOK rfl ?_; simp [hq,htk,hol2,hb4,happ]) | (refine T_ret ?_; try simp) | (refine T_skip ?_; try simp) | (refine T_blockk fun K hK => ?_) | (with_reducible apply_assumption -exfalso -symm) | (rw [afterRF_ret]; simp [hq,htk,hol2,hb4,happ]) | (refine T_exit ?_; try simp) | (refine T_cond_t ?_ ?_; · (simp; done)) | (refine T_cond_f ?_ ?_; · (simp; done)) | (rintro _ _ (_ | _) hz9 <;> first | (simp; done) | (simp at hz9; done)) | (refine And.intro ?_ ?_) | (simp only [Post.block_ret, Post.block_exit, Post.block_normal, Post.block_pan, Post.seq_ret, Post.seq_exit, Post.seq_normal, Post.seq_pan]; try simp [hq,htk,hol2,hb4,happ]))
   have hfr := frz_u8row (σ := [some (.cells 5 (l.length + 1) (u8l (mout l ++ be4 (crc (mout l)))))]) (b := 0) (n := 4 * l.length + 1 + 4) rfl (by rw [List.length_append, be4_len, mout, hol])
   rw [frzRe, hfr]
   exact h
  ·replace ih := PLift.up (ih trivial)
   have hk0 : decide (k < l.length) = true := by simpa using hk
   have hwk : IntKind.i64.wrap ((k : Int) + 1) = ((k + 1 : Nat) : Int) := by rw [IntWalk.i64_in _ (by omega)]; omega
   have hek := is_get hk
   have hlt : k < (is l).length := by omega
   have hel := get_of hek hlt
   have hb := mbody_take hk
   have hmem := w32 (List.all_eq_true.1 hin l[k] (List.getElem_mem hk))
   have hlen := mbody_len (l.take k)
   rw [List.length_take, Nat.min_eq_left (by omega)] at hlen
   have hx0 : 0 ≤ l[k] := by
    have := List.all_eq_true.1 hin l[k] (List.getElem_mem hk)
    simp only [inB, Bool.and_eq_true, decide_eq_true_eq] at this; exact this.1
   have hx1 : l[k] ≤ 1073741824 := by
    have := List.all_eq_true.1 hin l[k] (List.getElem_mem hk)
    simp only [inB, Bool.and_eq_true, decide_eq_true_eq] at this; exact this.2
   obtain ⟨x, hx⟩ := Int.eq_ofNat_of_zero_le hx0
   rw [hx] at hb hmem hel hek hx1
   have hm64 : IntKind.u64.wrap (x : Int) = (x : Int) := by rw [IntKind.wrap_u64]; omega
   simp only [Int.toNat_natCast] at hb hmem
   have hq : 2 * (4 * k + 1 + 4) + 1000 ≤ 281474976710656 := by omega
   have happ := u8l_app (UInt8.ofNat l.length :: mbody (l.take k)) (be4 x)
   have hol2 : (u8l (UInt8.ofNat l.length :: mbody (l.take k))).length = 4 * k + 1 := by rw [u8l_len, List.length_cons, hlen]
   have htk : (u8l (UInt8.ofNat l.length :: mbody (l.take k))).take (4 * k + 1) = u8l (UInt8.ofNat l.length :: mbody (l.take k)) := List.take_of_length_le (by rw [hol2]; exact Nat.le_refl _)
   have hb4 : (u8l (be4 x)).length = 4 := rfl
   rw [List.cons_append, ← hb] at happ
   replace happ := happ.symm
   generalize hX : mbody (l.take k) = X at *
   refine TL_round ?_
   repeat (first | (refine T_seqk fun K hK => ?_) | (refine T_reg tOK rfl ?_; simp [hll,hk0,hwk,hek,hel,hlt,hm64,hq,hol2,htk,hb4,happ]) | (refine T_ret ?_; try simp) | (refine T_skip ?_; try simp) | (refine T_blockk fun K hK => ?_) | (with_reducible apply_assumption -exfalso -symm) | (rw [afterRF_ret]; simp [hll,hk0,hwk,hek,hel,hlt,hm64,hq,hol2,htk,hb4,happ]) | (refine T_exit ?_; try simp) | (refine T_cond_t ?_ ?_; · (simp; done)) | (refine T_cond_f ?_ ?_; · (simp; done)) | (rintro _ _ (_ | _) hz9 <;> first | (simp; done) | (simp at hz9; done)) | (refine And.intro ?_ ?_) | (simp only [Post.block_ret, Post.block_exit, Post.block_normal, Post.block_pan, Post.seq_ret, Post.seq_exit, Post.seq_normal, Post.seq_pan]; try simp [hll,hk0,hwk,hek,hel,hlt,hm64,hq,hol2,htk,hb4,happ]))
   refine C_number4 (n := x) (by omega) ?_
   repeat (first | (rw [afterRF_ret]; simp [hll,hk0,hwk,hek,hel,hlt,hm64,hq,hol2,htk,hb4,happ]) | with_reducible apply_assumption -exfalso -symm)
   repeat (first | (refine T_seqk fun K hK => ?_) | (refine T_reg tOK rfl ?_; simp [hll,hk0,hwk,hek,hel,hlt,hm64,hq,hol2,htk,hb4,happ]) | (refine T_ret ?_; try simp) | (refine T_skip ?_; try simp) | (refine T_blockk fun K hK => ?_) | (with_reducible apply_assumption -exfalso -symm) | (rw [afterRF_ret]; simp [hll,hk0,hwk,hek,hel,hlt,hm64,hq,hol2,htk,hb4,happ]) | (refine T_exit ?_; try simp) | (refine T_cond_t ?_ ?_; · (simp; done)) | (refine T_cond_f ?_ ?_; · (simp; done)) | (rintro _ _ (_ | _) hz9 <;> first | (simp; done) | (simp at hz9; done)) | (refine And.intro ?_ ?_) | (simp only [Post.block_ret, Post.block_exit, Post.block_normal, Post.block_pan, Post.seq_ret, Post.seq_exit, Post.seq_normal, Post.seq_pan]; try simp [hll,hk0,hwk,hek,hel,hlt,hm64,hq,hol2,htk,hb4,happ]))
   refine TL_keep [0, 3, 4] ?_
   simpa [Fr.keep, Nat.mul_add, Nat.add_right_comm] using ih.down
end
theorem bytesOf_u8l : ∀ l : List UInt8, bytesOf (u8l l) = some l
 | [] => rfl
 | a :: l => by
  have ih := bytesOf_u8l l
  have ha := a.toNat_lt
  unfold u8l at ih ⊢
  simp [bytesOf, ih]; omega
theorem C_weaken {E : Env} {f : FuncId} {args : List PV} {σ : Store} {R : Re → Store → Prop} {x y : PV} (hw : ∀ c v, V E c x v → V E c y v) (h : C E f args σ fun re σ' => re = .ret x ∧ R (.ret y) σ') : C E f args σ R := fun cx vs hn hv =>
 (h cx vs hn hv).mono fun e w ⟨re, σ', cx', h1, h2, h3, h4, h5⟩ => ⟨.ret y, σ', cx', h1, h2.2, by
  rw [h2.1] at h3
  cases e <;> simp only [ReOK] at h3 ⊢
  exact hw _ _ h3, h4, h5⟩
theorem V_fst {E : Env} {c : Cx} {a b : PV} {v : Value} (h : V E c (.tup [a, b]) v) : V E c (.tup [.undef, b]) v := by
 obtain ⟨us, h1, h2⟩ := h.tup_inv
 subst h1
 have key : ∀ ws, VL E c [a, b] ws → VL E c [.undef, b] ws := fun ws h => by
  cases h with
  | undef hs => exact .undef hs
  | one h1 hn h hs => exact .undef hs
  | agg h hs => exact .undef hs
  | tup h hs => exact .undef hs
 exact .tup (key _ h2) .nil
theorem C_get_ref {R : Re → Store → Prop} {σ : Store} {b g n : Nat} {x : List UInt8} (hb : Store.at σ b = some (.cells 5 g (u8l x))) (hn : n = x.length) (hl : x.length < 1000000000) (h : R (.ret (.tup [.undef, i64 (manGet x).2])) σ) : C tE 23 [.ref b g 0 n] σ R := by
 refine C_lend tOK (args' := [u8s x]) ?_ (C_weaken (x := .tup [.lit (is (manGet x).1), i64 (manGet x).2]) (fun c v => V_fst) (C_get hl ⟨rfl, rfl, h⟩))
 simp only [List.mapM_cons, List.mapM_nil]
 rw [frz_u8row hb hn]; rfl
end Go.Proofs.YtdplbgfokoajjaaGreat
end
