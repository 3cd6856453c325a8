/- Concat where a row is still written; Clone as a row of one's own. -/
import Derived.Test.YthllcknfidnfaaaDw
set_option linter.unusedVariables false
set_option linter.unusedSimpArgs false
set_option maxRecDepth 4000
namespace Go.Proofs.Ythllcknfidnfaaa
open Go
attribute [local simp] RF_nil RF_cons afterRF_ret nilCmp sop sGuard isCall sCallee Fr.eval Fr.get Fr.put ofConst sLoad sStore sBuiltin Fr.args bodyQ sRes oneOf sBin sInt sUn
attribute [local simp] RD_nil RD_cons noConf clear accAdd Tab.pr Tab.slot foot wid idOf refId Op.operands Call.operands sFieldAddr sNilCheck sLookup keyLit sMapSet sMapDel sLen Store.at Store.new getP setP typeAt fits evalParts sBuildSlice sFill sList sApp sAppend frzRe frz pureB pureL
attribute [local simp] u8s optEval sSlice

theorem pureL_u8l (l : List UInt8) : pureL (u8l l) = true := by
  unfold u8l
  exact pureL_map _ (fun _ => rfl) l
section
variable {R : Re → Store → Prop} {σ : Store} {b : List UInt8} {i j g : Nat}
theorem C_concatR_own (hl : b.length < 100000000)
    (h : ∀ σ', σ'.take 2 = [some (.cells 32 0 [.nils, .ref 1 g 0 b.length]), some (.cells 5 g (u8l b))] → ∀ y, frz (hide 2 σ') 6 y = some (u8s b) → R (.ret y) σ') :
    C tE 36 [.ref 0 0 0 2] [some (.cells 32 0 [.nils, .ref 1 g 0 b.length]), some (.cells 5 g (u8l b))] R := by
  have k0 : IntKind.i64.wrap 0 = 0 := by decide
  have k1 : IntKind.i64.wrap 1 = 1 := by decide
  have k2 : IntKind.i64.wrap 2 = 2 := by decide
  unfold u8s u8l at h
  unfold u8l
  cases b with
  | nil =>
    refine C_bodyk tOK Try.func36 rfl (Nat.le_of_ble_eq_true rfl) fun K hK => ?_; simp
    repeat (first | (refine T_seqk fun K hK => ?_) | (refine T_reg tOK rfl ?_; simp [k0,k1,k2,u8l]) | (refine T_ret ?_; try simp) | (refine T_skip ?_; try simp) | (refine T_blockk fun K hK => ?_) | apply_assumption -exfalso -symm | (rw [afterRF_ret]; simp [k0,k1,k2,u8l]) | (refine T_exit ?_; try simp) | (refine T_cond_t ?_ ?_; · (simp; done)) | (refine T_cond_f ?_ ?_; · (simp; done)) | (rintro _ _ (_ | _) hz9 <;> first | (simp; done) | (simp at hz9; done)) | (refine And.intro ?_ ?_) | (simp only [Post.block_ret, Post.block_exit, Post.block_normal, Post.block_pan, Post.seq_ret, Post.seq_exit, Post.seq_normal, Post.seq_pan]; try simp [k0,k1,k2,u8l]) | (refine T_loop (TL_round ?_)) | (refine TL_round ?_) | (refine C_bodyk tOK Try.func56 rfl (Nat.le_of_ble_eq_true rfl) fun K hK => ?_; simp))
  | cons c b =>
    have hw : IntKind.i64.wrap ((b.length : Int) + 1) = (b.length : Int) + 1 := IntWalk.i64_in _ (by simp at hl; omega)
    have hn1 : decide ((b.length : Int) + 1 < 0) = false := by rw [decide_eq_false_iff_not]; omega
    have hp : decide (0 < (b.length : Int) + 1) = true := by rw [decide_eq_true_eq]; omega
    have q2 : 2 * (b.length + 1) ≤ 281474976709656 := by simp at hl; omega
    have g1 : b.length + 1 < 100000000 := by simpa using hl
    have htk : List.take b.length (List.map (fun b => PV.int IntKind.u8 (b.toNat : Int)) b) = List.map (fun b => PV.int IntKind.u8 (b.toNat : Int)) b := List.take_of_length_le (by simp)
    clear hl
    refine C_bodyk tOK Try.func36 rfl (Nat.le_of_ble_eq_true rfl) fun K hK => ?_; simp
    repeat (first | (refine T_seqk fun K hK => ?_) | (refine T_reg tOK rfl ?_; simp [k0,k1,k2,hw,hn1,hp]) | (refine T_ret ?_; try simp) | (refine T_skip ?_; try simp) | (refine T_blockk fun K hK => ?_) | apply_assumption -exfalso -symm | (rw [afterRF_ret]; simp [k0,k1,k2,hw,hn1,hp]) | (refine T_exit ?_; try simp) | (refine T_cond_t ?_ ?_; · (simp; done)) | (refine T_cond_f ?_ ?_; · (simp; done)) | (rintro _ _ (_ | _) hz9 <;> first | (simp; done) | (simp at hz9; done)) | (refine And.intro ?_ ?_) | (simp only [Post.block_ret, Post.block_exit, Post.block_normal, Post.block_pan, Post.seq_ret, Post.seq_exit, Post.seq_normal, Post.seq_pan]; try simp [k0,k1,k2,hw,hn1,hp]) | (refine T_loop (TL_round ?_)) | (refine TL_round ?_))
    refine C_grow (n := b.length) g1 rfl ?_
    repeat (first | (refine T_seqk fun K hK => ?_) | (refine T_reg tOK rfl ?_; simp [k0,k1,k2,hw,hn1,hp,q2,htk]) | (refine T_ret ?_; try simp) | (refine T_skip ?_; try simp) | (refine T_blockk fun K hK => ?_) | apply_assumption -exfalso -symm | (rw [afterRF_ret]; simp [k0,k1,k2,hw,hn1,hp,q2,htk]) | (refine T_exit ?_; try simp) | (refine T_cond_t ?_ ?_; · (simp; done)) | (refine T_cond_f ?_ ?_; · (simp; done)) | (rintro _ _ (_ | _) hz9 <;> first | (simp; done) | (simp at hz9; done)) | (refine And.intro ?_ ?_) | (simp only [Post.block_ret, Post.block_exit, Post.block_normal, Post.block_pan, Post.seq_ret, Post.seq_exit, Post.seq_normal, Post.seq_pan]; try simp [k0,k1,k2,hw,hn1,hp,q2,htk]) | (refine T_loop (TL_round ?_)) | (refine TL_round ?_))
    rw [frz_row (xs := u8l (c :: b)) rfl (by simp [u8l]) (frz_u8l _ _)]
    rw [List.drop_zero, List.take_of_length_le (by simp [u8l])]; rfl
theorem C_concatR (hij : i ≠ j) (h0 : Store.at σ i = some (.cells 32 0 [.nils, .ref j g 0 b.length])) (h1 : Store.at σ j = some (.cells 5 g (u8l b))) (hl : b.length < 100000000) (h : R (.ret (u8s b)) σ) :
    C tE 36 [.ref i 0 0 2] σ R := by
  have hat := Store.at_some h0
  have hat1 := Store.at_some h1
  have hu : ∀ r, renL r (u8l b) = u8l b := fun r => renL_pure r _ (pureL_u8l b)
  have hu2 : ∀ p, allL p (u8l b) = true := fun p => allL_pure p _ (pureL_u8l b)
  refine C_own (σ0 := [some (.cells 32 0 [.nils, .ref 1 g 0 b.length]), some (.cells 5 g (u8l b))]) (args := [.ref 0 0 0 2]) tOK [i, j] (by simp [hij]) rfl (by simp [allL, allB]) (by simp [allStore, allBlk, allL, allB, hu2]) (fun k hk => ?_) ?_
  · have hk : k = 0 ∨ k = 1 := by simp at hk; omega
    rcases hk with rfl | rfl
    · simp [nth, renStore, renBlk, renL, ren, hat]
    · simp [nth, renStore, renBlk, hu, hat1]
  · refine C_concatR_own hl fun σ' h1 y h2 => ?_
    unfold ownRe
    have h1' : σ'.take [i, j].length = [some (.cells 32 0 [.nils, .ref 1 g 0 b.length]), some (.cells 5 g (u8l b))] := h1
    refine ⟨by rw [h1']; simp [allStore, allBlk, allL, allB, hu2], ?_⟩
    have h2' : frz (hide [i, j].length σ') 6 y = some (u8s b) := h2
    simp only [h2', h1']
    have : putAll σ [i, j] (renStore (nth [i, j]) [some (.cells 32 0 [.nils, .ref 1 g 0 b.length]), some (.cells 5 g (u8l b))]) = σ := by
      have e : renStore (nth [i, j]) [some (.cells 32 0 [.nils, .ref 1 g 0 b.length]), some (.cells 5 g (u8l b))] = [some (.cells 32 0 [.nils, .ref j g 0 b.length]), some (.cells 5 g (u8l b))] := by
        simp [renStore, renBlk, renL, ren, hu, nth]
      rw [e]
      simp only [putAll]
      rw [set_self_of hat, set_self_of hat1]
    rw [this]; exact h
theorem C_cloneR {c : UInt8} (hl : (c :: b).length < 1000000000) (h : R (.ret (.ref σ.length 1 0 (c :: b).length)) (σ ++ [some (.cells 5 1 (u8l (c :: b)))])) : C tE 37 [u8s (c :: b)] σ R := by
  unfold u8s u8l
  unfold u8l at h
  have hl' : 2 * (b.length + 1) ≤ 281474976709656 := by simp at hl; omega
  refine C_bodyk tOK Try.func37 rfl (Nat.le_of_ble_eq_true rfl) fun K hK => ?_; simp
  repeat (first | (refine T_seqk fun K hK => ?_) | (refine T_reg tOK rfl ?_; simp [hl']) | (refine T_ret ?_; try simp) | (refine T_skip ?_; try simp) | (refine T_blockk fun K hK => ?_) | apply_assumption -exfalso -symm | (rw [afterRF_ret]; simp [hl']) | (refine T_exit ?_; try simp) | (refine T_cond_t ?_ ?_; · (simp; done)) | (refine T_cond_f ?_ ?_; · (simp; done)) | (rintro _ _ (_ | _) hz9 <;> first | (simp; done) | (simp at hz9; done)) | (refine And.intro ?_ ?_) | (simp only [Post.block_ret, Post.block_exit, Post.block_normal, Post.block_pan, Post.seq_ret, Post.seq_exit, Post.seq_normal, Post.seq_pan]; try simp [hl']) | (refine T_loop (TL_round ?_)) | (refine TL_round ?_))
  all_goals first | exact h | skip
end
end Go.Proofs.Ythllcknfidnfaaa
