/- Package slices: Concat of two rows of bytes. -/
import Derived.Test.YthllcknfidnfaaaDm
set_option linter.unusedVariables false
set_option linter.unusedSimpArgs false
set_option maxRecDepth 4000
namespace Go.Proofs.Ythllcknfidnfaaa
open Go
attribute [local simp] RF_nil RF_cons afterRF_ret nilCmp sop sGuard isCall sCallee Fr.eval Fr.get Fr.put ofConst sLoad sStore sBuiltin Fr.args bodyQ sRes oneOf sBin sInt sUn
attribute [local simp] RD_nil RD_cons noConf clear accAdd Tab.pr Tab.slot foot wid idOf refId Op.operands Call.operands sFieldAddr sNilCheck sLookup keyLit sMapSet sMapDel sLen Store.at Store.new getP setP typeAt fits evalParts sBuildSlice sFill sList sApp sAppend frzRe frz pureB pureL
attribute [local simp] dkB dkS u8s optEval sSlice

section
variable {R : Re → Store → Prop} {σ : Store} {a b : List UInt8} {i : Nat}
theorem C_grow {n : Nat} {m : Int} (hn : n + 1 < 100000000) (hm : m = (n : Int) + 1)
    (h : R (.ret (.ref σ.length 0 0 0)) (σ ++ [some (.cells 5 0 (.int .u8 0 :: List.replicate n (.int .u8 0)))])) : C tE 56 [.nils, i64 m] σ R := by
  have k0 : IntKind.i64.wrap 0 = 0 := by decide
  have hw : IntKind.i64.wrap m = m := IntWalk.i64_in _ (by omega)
  have hn0 : decide (m < 0) = false := by rw [decide_eq_false_iff_not]; omega
  have hp : decide (0 < m) = true := by rw [decide_eq_true_eq]; omega
  have q0 : (0 : Int) ≤ m := by omega
  have q1 : m < 1073741824 := by omega
  have hc : m.toNat = n + 1 := by omega
  have q5 : 2 * (n + 1) ≤ 281474976709656 := by omega
  clear hm hn
  refine C_bodyk tOK Try.func56 rfl (Nat.le_of_ble_eq_true rfl) fun K hK => ?_; simp
  repeat (first | (refine T_seqk fun K hK => ?_) | (refine T_reg tOK rfl ?_; simp [k0,hw,hn0,hp,hc,List.replicate_succ,q5,q0,q1]) | (refine T_ret ?_; try simp) | (refine T_skip ?_; try simp) | (refine T_blockk fun K hK => ?_) | apply_assumption -exfalso -symm | (rw [afterRF_ret]; simp [k0,hw,hn0,hp,hc,List.replicate_succ,q5,q0,q1]) | (refine T_exit ?_; try simp) | (refine T_cond_t ?_ ?_; · (simp; done)) | (refine T_cond_f ?_ ?_; · (simp; done)) | (rintro _ _ (_ | _) hz9 <;> first | (simp; done) | (simp at hz9; done)) | (refine And.intro ?_ ?_) | (simp only [Post.block_ret, Post.block_exit, Post.block_normal, Post.block_pan, Post.seq_ret, Post.seq_exit, Post.seq_normal, Post.seq_pan]; try simp [k0,hw,hn0,hp,hc,List.replicate_succ,q5,q0,q1]) | (refine T_loop (TL_round ?_)) | (refine TL_round ?_))
theorem C_concat_own (x : PV) (hx : x = u8s a ∨ (x = .nils ∧ a = [])) (hl : a.length + b.length < 100000000)
    (h : ∀ σ', σ'.take 1 = [some (.cells 32 0 [x, u8s b])] → ∀ y, frz (hide 1 σ') 6 y = some (u8s (a ++ b)) → R (.ret y) σ') :
    C tE 36 [.ref 0 0 0 2] [some (.cells 32 0 [x, u8s b])] R := by
  have hw : IntKind.i64.wrap ((a.length : Int) + b.length) = (a.length : Int) + b.length := IntWalk.i64_in _ (by omega)
  have hw0 : IntKind.i64.wrap (a.length : Int) = a.length := IntWalk.i64_in _ (by omega)
  have hn0 : decide ((a.length : Int) < 0) = false := by simp
  have hn1 : decide ((a.length : Int) + b.length < 0) = false := by simp; omega
  have k1 : IntKind.i64.wrap 1 = 1 := by decide
  have k2 : IntKind.i64.wrap 2 = 2 := by decide
  have k0 : IntKind.i64.wrap 0 = 0 := by decide
  unfold u8s u8l at h
  unfold u8s u8l
  unfold u8s u8l at hx
  rcases hx with rfl | ⟨rfl, rfl⟩
  · cases hp : decide (0 < (a.length : Int) + b.length) with
    | true =>
      obtain ⟨t, ht⟩ : ∃ t, a.length + b.length = t + 1 := ⟨a.length + b.length - 1, by simp at hp; omega⟩
      have q2 : 2 * (a.length + b.length) ≤ 281474976709656 := by omega
      have q3 : 2 * a.length ≤ 281474976709656 := by omega
      have g1 : t + 1 < 100000000 := by omega
      have g2 : (a.length : Int) + b.length = (t : Int) + 1 := by omega
      clear ht hl
      refine C_bodyk tOK Try.func36 rfl (Nat.le_of_ble_eq_true rfl) fun K hK => ?_; simp
      repeat (first | (refine T_seqk fun K hK => ?_) | (refine T_reg tOK rfl ?_; simp [k0,k1,k2,hw,hw0,hn0,hn1,hp]) | (refine T_ret ?_; try simp) | (refine T_skip ?_; try simp) | (refine T_blockk fun K hK => ?_) | apply_assumption -exfalso -symm | (rw [afterRF_ret]; simp [k0,k1,k2,hw,hw0,hn0,hn1,hp]) | (refine T_exit ?_; try simp) | (refine T_cond_t ?_ ?_; · (simp; done)) | (refine T_cond_f ?_ ?_; · (simp; done)) | (rintro _ _ (_ | _) hz9 <;> first | (simp; done) | (simp at hz9; done)) | (refine And.intro ?_ ?_) | (simp only [Post.block_ret, Post.block_exit, Post.block_normal, Post.block_pan, Post.seq_ret, Post.seq_exit, Post.seq_normal, Post.seq_pan]; try simp [k0,k1,k2,hw,hw0,hn0,hn1,hp]) | (refine T_loop (TL_round ?_)) | (refine TL_round ?_))
      refine C_grow (n := t) g1 g2 ?_
      repeat (first | (refine T_seqk fun K hK => ?_) | (refine T_reg tOK rfl ?_; simp [k0,k1,k2,hw,hw0,hn0,hn1,hp,q2,q3]) | (refine T_ret ?_; try simp) | (refine T_skip ?_; try simp) | (refine T_blockk fun K hK => ?_) | apply_assumption -exfalso -symm | (rw [afterRF_ret]; simp [k0,k1,k2,hw,hw0,hn0,hn1,hp,q2,q3]) | (refine T_exit ?_; try simp) | (refine T_cond_t ?_ ?_; · (simp; done)) | (refine T_cond_f ?_ ?_; · (simp; done)) | (rintro _ _ (_ | _) hz9 <;> first | (simp; done) | (simp at hz9; done)) | (refine And.intro ?_ ?_) | (simp only [Post.block_ret, Post.block_exit, Post.block_normal, Post.block_pan, Post.seq_ret, Post.seq_exit, Post.seq_normal, Post.seq_pan]; try simp [k0,k1,k2,hw,hw0,hn0,hn1,hp,q2,q3]) | (refine T_loop (TL_round ?_)) | (refine TL_round ?_))
      rw [List.take_of_length_le (by simp), ← List.map_append]
      rw [frz_row (xs := u8l (a ++ b)) rfl (by simp [u8l]) (frz_u8l _ _)]
      rw [List.drop_zero, List.take_of_length_le (by simp [u8l])]; rfl
    | false =>
      have ea : a = [] := List.length_eq_zero_iff.1 (by simp at hp; omega)
      have eb : b = [] := List.length_eq_zero_iff.1 (by simp at hp; omega)
      subst ea; subst eb
      refine C_bodyk tOK Try.func36 rfl (Nat.le_of_ble_eq_true rfl) fun K hK => ?_; simp
      repeat (first | (refine T_seqk fun K hK => ?_) | (refine T_reg tOK rfl ?_; simp [k0,k1,k2,u8l]) | (refine T_ret ?_; try simp) | (refine T_skip ?_; try simp) | (refine T_blockk fun K hK => ?_) | apply_assumption -exfalso -symm | (rw [afterRF_ret]; simp [k0,k1,k2,u8l]) | (refine T_exit ?_; try simp) | (refine T_cond_t ?_ ?_; · (simp; done)) | (refine T_cond_f ?_ ?_; · (simp; done)) | (rintro _ _ (_ | _) hz9 <;> first | (simp; done) | (simp at hz9; done)) | (refine And.intro ?_ ?_) | (simp only [Post.block_ret, Post.block_exit, Post.block_normal, Post.block_pan, Post.seq_ret, Post.seq_exit, Post.seq_normal, Post.seq_pan]; try simp [k0,k1,k2,u8l]) | (refine T_loop (TL_round ?_)) | (refine TL_round ?_) | (refine C_bodyk tOK Try.func56 rfl (Nat.le_of_ble_eq_true rfl) fun K hK => ?_; simp))
  · cases b with
    | nil =>
      refine C_bodyk tOK Try.func36 rfl (Nat.le_of_ble_eq_true rfl) fun K hK => ?_; simp
      repeat (first | (refine T_seqk fun K hK => ?_) | (refine T_reg tOK rfl ?_; simp [k0,k1,k2,u8l]) | (refine T_ret ?_; try simp) | (refine T_skip ?_; try simp) | (refine T_blockk fun K hK => ?_) | apply_assumption -exfalso -symm | (rw [afterRF_ret]; simp [k0,k1,k2,u8l]) | (refine T_exit ?_; try simp) | (refine T_cond_t ?_ ?_; · (simp; done)) | (refine T_cond_f ?_ ?_; · (simp; done)) | (rintro _ _ (_ | _) hz9 <;> first | (simp; done) | (simp at hz9; done)) | (refine And.intro ?_ ?_) | (simp only [Post.block_ret, Post.block_exit, Post.block_normal, Post.block_pan, Post.seq_ret, Post.seq_exit, Post.seq_normal, Post.seq_pan]; try simp [k0,k1,k2,u8l]) | (refine T_loop (TL_round ?_)) | (refine TL_round ?_) | (refine C_bodyk tOK Try.func56 rfl (Nat.le_of_ble_eq_true rfl) fun K hK => ?_; simp))
    | cons c b =>
      simp only [List.length_nil, List.length_cons, Int.natCast_zero, Int.zero_add, Nat.zero_add, Int.natCast_add, Int.natCast_one] at hw hn1 hl
      have hp : decide (0 < (b.length : Int) + 1) = true := by rw [decide_eq_true_eq]; omega
      have q2 : 2 * (b.length + 1) ≤ 281474976709656 := by omega
      have g1 : b.length + 1 < 100000000 := by omega
      clear hl
      refine C_bodyk tOK Try.func36 rfl (Nat.le_of_ble_eq_true rfl) fun K hK => ?_; simp
      repeat (first | (refine T_seqk fun K hK => ?_) | (refine T_reg tOK rfl ?_; simp [k0,k1,k2,hw,hn1,hp]) | (refine T_ret ?_; try simp) | (refine T_skip ?_; try simp) | (refine T_blockk fun K hK => ?_) | apply_assumption -exfalso -symm | (rw [afterRF_ret]; simp [k0,k1,k2,hw,hn1,hp]) | (refine T_exit ?_; try simp) | (refine T_cond_t ?_ ?_; · (simp; done)) | (refine T_cond_f ?_ ?_; · (simp; done)) | (rintro _ _ (_ | _) hz9 <;> first | (simp; done) | (simp at hz9; done)) | (refine And.intro ?_ ?_) | (simp only [Post.block_ret, Post.block_exit, Post.block_normal, Post.block_pan, Post.seq_ret, Post.seq_exit, Post.seq_normal, Post.seq_pan]; try simp [k0,k1,k2,hw,hn1,hp]) | (refine T_loop (TL_round ?_)) | (refine TL_round ?_))
      refine C_grow (n := b.length) g1 rfl ?_
      repeat (first | (refine T_seqk fun K hK => ?_) | (refine T_reg tOK rfl ?_; simp [k0,k1,k2,hw,hn1,hp,q2]) | (refine T_ret ?_; try simp) | (refine T_skip ?_; try simp) | (refine T_blockk fun K hK => ?_) | apply_assumption -exfalso -symm | (rw [afterRF_ret]; simp [k0,k1,k2,hw,hn1,hp,q2]) | (refine T_exit ?_; try simp) | (refine T_cond_t ?_ ?_; · (simp; done)) | (refine T_cond_f ?_ ?_; · (simp; done)) | (rintro _ _ (_ | _) hz9 <;> first | (simp; done) | (simp at hz9; done)) | (refine And.intro ?_ ?_) | (simp only [Post.block_ret, Post.block_exit, Post.block_normal, Post.block_pan, Post.seq_ret, Post.seq_exit, Post.seq_normal, Post.seq_pan]; try simp [k0,k1,k2,hw,hn1,hp,q2]) | (refine T_loop (TL_round ?_)) | (refine TL_round ?_))
      rw [frz_row (xs := u8l (c :: b)) rfl (by simp [u8l]) (frz_u8l _ _)]
      rw [List.drop_zero, List.take_of_length_le (by simp [u8l])]; rfl
theorem C_concat {x : PV} (hx : x = u8s a ∨ (x = .nils ∧ a = [])) (h0 : Store.at σ i = some (.cells 32 0 [x, u8s b])) (hl : a.length + b.length < 100000000) (h : R (.ret (u8s (a ++ b))) σ) :
    C tE 36 [.ref i 0 0 2] σ R := by
  have hb : ∀ p, allB p x = true := by rcases hx with rfl | ⟨rfl, rfl⟩ <;> intro p <;> simp [allB, allL]
  have hat := Store.at_some h0
  have hlt := getElem?_lt hat
  refine C_own (σ0 := [some (.cells 32 0 [x, u8s b])]) (args := [.ref 0 0 0 2]) tOK [i] (by simp) rfl (by simp [allL, allB]) (by simp [allStore, allBlk, allL, allB, hb]) (fun j hj => ?_) ?_
  · have hj : j = 0 := by simp at hj; exact hj
    subst hj
    rcases hx with rfl | ⟨rfl, rfl⟩ <;> simp [nth, renStore, renBlk, renL, ren, hat]
  · refine C_concat_own x hx hl fun σ' h1 y h2 => ?_
    unfold ownRe
    have h1' : σ'.take [i].length = [some (.cells 32 0 [x, u8s b])] := h1
    refine ⟨by rw [h1']; simp [allStore, allBlk, allL, allB, hb], ?_⟩
    have h2' : frz (hide [i].length σ') 6 y = some (u8s (a ++ b)) := h2
    simp only [h2', h1']
    have : putAll σ [i] (renStore (nth [i]) [some (.cells 32 0 [x, u8s b])]) = σ := by
      have e : renStore (nth [i]) [some (.cells 32 0 [x, u8s b])] = [some (.cells 32 0 [x, u8s b])] := by
        rcases hx with rfl | ⟨rfl, rfl⟩ <;> simp [renStore, renBlk, renL, ren]
      rw [e]
      simp only [putAll]
      rw [List.getElem?_eq_getElem hlt, Option.some.injEq] at hat
      rw [← hat, List.set_getElem_self]
    rw [this]; exact h
end
end Go.Proofs.Ythllcknfidnfaaa
