/- Manifests' live question. -/
import Derived.Test.YtdplbgfokoajjaaXi
import Derived.Test.YtdplbgfokoajjaaXh
import Derived.Test.YtdplbgfokoajjaaXe
import Derived.Test.YtdplbgfokoajjaaXd
import Derived.Test.YtdplbgfokoajjaaRows
import Derived.ProofKit
section
set_option linter.unusedVariables false
set_option linter.unusedSimpArgs false
set_option maxRecDepth 20000
namespace Go.Proofs.Ytdplbgfokoajjaa
open Go
attribute [local simp] RF_nil RF_cons afterRF_ret nilCmp sop sGuard isCall sCallee Fr.eval Fr.get Fr.put ofConst sLoad sStore sBuiltin Fr.args bodyQ sRes oneOf sBin sInt sUn
attribute [local simp] RD_nil RD_cons noConf clear accAdd Tab.pr Tab.slot foot wid idOf refId Op.operands Call.operands sFieldAddr sNilCheck sLookup keyLit sMapSet sMapDel sLen Store.at Store.new getP setP typeAt fits evalParts sBuildSlice sFill sList sApp sAppend frzRe frz pureB pureL
attribute [local simp] optEval sSlice sIndexAddr xop sClear

section
variable {R : Re → Store → Prop} {σ : Store} {d : Dk} {i j : Nat} {l : List Int}
theorem C_swap_at (h0 : DkAt σ i j d) (hI : Inv d) (hl : l.length < 1000000000) (h : R (.ret (i64 (manSwap d l).1)) (dkPut σ i j (manSwap d l).2)) : C tE 29 [.ptr i 0 0 [], .lit (is l)] σ R :=
  C_at (args := [.ptr 0 0 0 [], .lit (is l)]) h0 rfl (fun R h => C_swap hI hl h) (fun τ => rfl) h
theorem Inv.turn {d : Dk} (h : Inv d) {l : List Int} : Inv (manTurn d l).2 := by
  unfold manTurn manUndo
  simp only
  split
  · split
    · exact h.write.sync.rename
    · split
      · exact h.write.sync
      · exact h.write.sync.delete
  · split
    · exact h.write
    · exact h.write.delete
theorem Inv.swap {d : Dk} (h : Inv d) {l : List Int} : Inv (manSwap d l).2 := by
  unfold manSwap
  simp only
  split
  · split
    · split
      · exact h.delete.turn
      · exact h.delete
    · exact h.turn
  · exact h
theorem C_samei {a b : List Int} (ha : a.length < 1000000000) (hb : b.length < 1000000000) (h : R (.ret (.bool (a == b))) σ) : C tE 12 [.lit (is a), .lit (is b)] σ R := by
  have hla := is_len a
  have hlb := is_len b
  refine C_pure tOK (by simp [pureL_is]) ?_
  cases hn : bne (a.length : Int) (b.length : Int) with
  | true =>
    have : (a == b) = false := by
      rw [beq_eq_false_iff_ne]; rintro rfl; simp at hn
    rw [this] at h
    refine C_bodyk tOK Try.func12 rfl (Nat.le_of_ble_eq_true rfl) fun K hK => ?_; simp
    repeat (first | (refine T_seqk fun K hK => ?_) | (refine T_reg tOK rfl ?_; simp [hla,hlb,hn]) | (refine T_ret ?_; try simp) | (refine T_skip ?_; try simp) | (refine T_blockk fun K hK => ?_) | (with_reducible apply_assumption -exfalso -symm) | (rw [afterRF_ret]; simp [hla,hlb,hn]) | (refine T_exit ?_; try simp) | (refine T_cond_t ?_ ?_; · (simp; done)) | (refine T_cond_f ?_ ?_; · (simp; done)) | (rintro _ _ (_ | _) hz9 <;> first | (simp; done) | (simp at hz9; done)) | (refine And.intro ?_ ?_) | (simp only [Post.block_ret, Post.block_exit, Post.block_normal, Post.block_pan, Post.seq_ret, Post.seq_exit, Post.seq_normal, Post.seq_pan]; try simp [hla,hlb,hn]) | (refine T_draw tOK tmix [([], 0), ([], 1), ([0, 1], 2), ([0, 1, 2], 3), ([], 4), ([], 5), ([4, 5], 6), ([4, 5, 6], 7), ([0, 1, 2, 3, 4, 5, 6, 7], 8)] 8 (by decide +kernel) ?_; simp [hla,hlb,hn]))
  | false =>
    have hlen : a.length = b.length := by simp at hn; omega
    refine C_bodyk tOK Try.func12 rfl (Nat.le_of_ble_eq_true rfl) fun K hK => ?_; simp
    repeat (first | (refine T_seqk fun K hK => ?_) | (refine T_reg tOK rfl ?_; simp [hla,hlb,hn]) | (refine T_ret ?_; try simp) | (refine T_skip ?_; try simp) | (refine T_blockk fun K hK => ?_) | (with_reducible apply_assumption -exfalso -symm) | (rw [afterRF_ret]; simp [hla,hlb,hn]) | (refine T_exit ?_; try simp) | (refine T_cond_t ?_ ?_; · (simp; done)) | (refine T_cond_f ?_ ?_; · (simp; done)) | (rintro _ _ (_ | _) hz9 <;> first | (simp; done) | (simp at hz9; done)) | (refine And.intro ?_ ?_) | (simp only [Post.block_ret, Post.block_exit, Post.block_normal, Post.block_pan, Post.seq_ret, Post.seq_exit, Post.seq_normal, Post.seq_pan]; try simp [hla,hlb,hn]) | (refine T_draw tOK tmix [([], 0), ([], 1), ([0, 1], 2), ([0, 1, 2], 3), ([], 4), ([], 5), ([4, 5], 6), ([4, 5, 6], 7), ([0, 1, 2, 3, 4, 5, 6, 7], 8)] 8 (by decide +kernel) ?_; simp [hla,hlb,hn]))
    refine T_loop ?_
    refine TL_keep [0, 1, 5] ?_
    simp [Fr.keep]
    refine TL_st a.length (fun k fr σ => fr = [(0, .lit (is a)), (1, .lit (is b)), (5, i64 k)] ∧ σ = [] ∧ a.take k = b.take k) ?_ ?_ ⟨rfl, rfl, by simp⟩
    · rintro fr σ ⟨rfl, rfl, hp⟩
      rw [List.take_length, hlen, List.take_length] at hp
      subst hp
      simp at h
      refine TL_round ?_
      repeat (first | (refine T_seqk fun K hK => ?_) | (refine T_reg tOK rfl ?_; simp [hla]) | (refine T_ret ?_; try simp) | (refine T_skip ?_; try simp) | (refine T_blockk fun K hK => ?_) | (with_reducible apply_assumption -exfalso -symm) | (rw [afterRF_ret]; simp [hla]) | (refine T_exit ?_; try simp) | (refine T_cond_t ?_ ?_; · (simp; done)) | (refine T_cond_f ?_ ?_; · (simp; done)) | (rintro _ _ (_ | _) hz9 <;> first | (simp; done) | (simp at hz9; done)) | (refine And.intro ?_ ?_) | (simp only [Post.block_ret, Post.block_exit, Post.block_normal, Post.block_pan, Post.seq_ret, Post.seq_exit, Post.seq_normal, Post.seq_pan]; try simp [hla]) | (refine T_draw tOK tmix [([], 0), ([], 1), ([0, 1], 2), ([0, 1, 2], 3), ([], 4), ([], 5), ([4, 5], 6), ([4, 5, 6], 7), ([0, 1, 2, 3, 4, 5, 6, 7], 8)] 8 (by decide +kernel) ?_; simp [hla]))
    · rintro k fr σ hk ⟨rfl, rfl, hp⟩ ih
      replace ih := PLift.up ih
      have hkb : k < b.length := by omega
      have hk0 : decide (k < a.length) = true := by simpa using hk
      have hwk : IntKind.i64.wrap ((k : Int) + 1) = ((k + 1 : Nat) : Int) := by rw [IntWalk.i64_in _ (by omega)]; omega
      have ea := is_get hk
      have eb := is_get hkb
      have la : k < (is a).length := by omega
      have lb : k < (is b).length := by omega
      have ea' := get_of ea la
      have eb' := get_of eb lb
      refine TL_round ?_
      cases hb : bne a[k] b[k] with
      | true =>
        have : (a == b) = false := by
          rw [beq_eq_false_iff_ne]; rintro rfl; simp at hb
        rw [this] at h
        clear ih
        repeat (first | (refine T_seqk fun K hK => ?_) | (refine T_reg tOK rfl ?_; simp [hk0,hwk,ea,eb,ea',eb',la,lb,hb,hla,hlb,hk,hkb]) | (refine T_ret ?_; try simp) | (refine T_skip ?_; try simp) | (refine T_blockk fun K hK => ?_) | (with_reducible apply_assumption -exfalso -symm) | (rw [afterRF_ret]; simp [hk0,hwk,ea,eb,ea',eb',la,lb,hb,hla,hlb,hk,hkb]) | (refine T_exit ?_; try simp) | (refine T_cond_t ?_ ?_; · (simp; done)) | (refine T_cond_f ?_ ?_; · (simp; done)) | (rintro _ _ (_ | _) hz9 <;> first | (simp; done) | (simp at hz9; done)) | (refine And.intro ?_ ?_) | (simp only [Post.block_ret, Post.block_exit, Post.block_normal, Post.block_pan, Post.seq_ret, Post.seq_exit, Post.seq_normal, Post.seq_pan]; try simp [hk0,hwk,ea,eb,ea',eb',la,lb,hb,hla,hlb,hk,hkb]) | (refine T_draw tOK tmix [([], 0), ([], 1), ([0, 1], 2), ([0, 1, 2], 3), ([], 4), ([], 5), ([4, 5], 6), ([4, 5, 6], 7), ([0, 1, 2, 3, 4, 5, 6, 7], 8)] 8 (by decide +kernel) ?_; simp [hk0,hwk,ea,eb,ea',eb',la,lb,hb,hla,hlb,hk,hkb]))
      | false =>
        repeat (first | (refine T_seqk fun K hK => ?_) | (refine T_reg tOK rfl ?_; simp [hk0,hwk,ea,eb,ea',eb',la,lb,hb,hla,hlb,hk,hkb]) | (refine T_ret ?_; try simp) | (refine T_skip ?_; try simp) | (refine T_blockk fun K hK => ?_) | (with_reducible apply_assumption -exfalso -symm) | (rw [afterRF_ret]; simp [hk0,hwk,ea,eb,ea',eb',la,lb,hb,hla,hlb,hk,hkb]) | (refine T_exit ?_; try simp) | (refine T_cond_t ?_ ?_; · (simp; done)) | (refine T_cond_f ?_ ?_; · (simp; done)) | (rintro _ _ (_ | _) hz9 <;> first | (simp; done) | (simp at hz9; done)) | (refine And.intro ?_ ?_) | (simp only [Post.block_ret, Post.block_exit, Post.block_normal, Post.block_pan, Post.seq_ret, Post.seq_exit, Post.seq_normal, Post.seq_pan]; try simp [hk0,hwk,ea,eb,ea',eb',la,lb,hb,hla,hlb,hk,hkb]) | (refine T_draw tOK tmix [([], 0), ([], 1), ([0, 1], 2), ([0, 1, 2], 3), ([], 4), ([], 5), ([4, 5], 6), ([4, 5, 6], 7), ([0, 1, 2, 3, 4, 5, 6, 7], 8)] 8 (by decide +kernel) ?_; simp [hk0,hwk,ea,eb,ea',eb',la,lb,hb,hla,hlb,hk,hkb]))
        refine TL_fall (fr' := [(0, .lit (is a)), (1, .lit (is b)), (5, i64 ((k + 1 : Nat) : Int))]) (σ' := []) 0 [0, 1, 5] (by simp) (by simp [Fr.keep]) (by simp [belowFr, belowB, belowL_of_pure 0 _ (pureL_is a), belowL_of_pure 0 _ (pureL_is b)]) (by simp) rfl (ih.down _ _ ⟨rfl, rfl, ?_⟩)
        have he : a[k] = b[k] := by simpa using hb
        rw [List.take_add_one, List.take_add_one, hp, List.getElem?_eq_getElem hk, List.getElem?_eq_getElem hkb, he]
theorem strs_len (l : List (List UInt8)) : (strs l).length = l.length := by simp [strs]
theorem pureL_strs (l : List (List UInt8)) : pureL (strs l) = true := by
  unfold strs
  exact pureL_map _ (fun _ => rfl) l
theorem C_sames {a b : List (List UInt8)} (ha : a.length < 1000000000) (hb : b.length < 1000000000) (h : R (.ret (.bool (a == b))) σ) : C tE 21 [.lit (strs a), .lit (strs b)] σ R := by
  have hla := strs_len a
  have hlb := strs_len b
  refine C_pure tOK (by simp [pureL_strs]) ?_
  cases hn : bne (a.length : Int) (b.length : Int) with
  | true =>
    have : (a == b) = false := by
      rw [beq_eq_false_iff_ne]; rintro rfl; simp at hn
    rw [this] at h
    refine C_bodyk tOK Try.func21 rfl (Nat.le_of_ble_eq_true rfl) fun K hK => ?_; simp
    repeat (first | (refine T_seqk fun K hK => ?_) | (refine T_reg tOK rfl ?_; simp [hla,hlb,hn]) | (refine T_ret ?_; try simp) | (refine T_skip ?_; try simp) | (refine T_blockk fun K hK => ?_) | (with_reducible apply_assumption -exfalso -symm) | (rw [afterRF_ret]; simp [hla,hlb,hn]) | (refine T_exit ?_; try simp) | (refine T_cond_t ?_ ?_; · (simp; done)) | (refine T_cond_f ?_ ?_; · (simp; done)) | (rintro _ _ (_ | _) hz9 <;> first | (simp; done) | (simp at hz9; done)) | (refine And.intro ?_ ?_) | (simp only [Post.block_ret, Post.block_exit, Post.block_normal, Post.block_pan, Post.seq_ret, Post.seq_exit, Post.seq_normal, Post.seq_pan]; try simp [hla,hlb,hn]) | (refine T_draw tOK tmix [([], 0), ([], 1), ([0, 1], 2), ([0, 1, 2], 3), ([], 4), ([], 5), ([4, 5], 6), ([4, 5, 6], 7), ([0, 1, 2, 3, 4, 5, 6, 7], 8)] 8 (by decide +kernel) ?_; simp [hla,hlb,hn]))
  | false =>
    have hlen : a.length = b.length := by simp at hn; omega
    refine C_bodyk tOK Try.func21 rfl (Nat.le_of_ble_eq_true rfl) fun K hK => ?_; simp
    repeat (first | (refine T_seqk fun K hK => ?_) | (refine T_reg tOK rfl ?_; simp [hla,hlb,hn]) | (refine T_ret ?_; try simp) | (refine T_skip ?_; try simp) | (refine T_blockk fun K hK => ?_) | (with_reducible apply_assumption -exfalso -symm) | (rw [afterRF_ret]; simp [hla,hlb,hn]) | (refine T_exit ?_; try simp) | (refine T_cond_t ?_ ?_; · (simp; done)) | (refine T_cond_f ?_ ?_; · (simp; done)) | (rintro _ _ (_ | _) hz9 <;> first | (simp; done) | (simp at hz9; done)) | (refine And.intro ?_ ?_) | (simp only [Post.block_ret, Post.block_exit, Post.block_normal, Post.block_pan, Post.seq_ret, Post.seq_exit, Post.seq_normal, Post.seq_pan]; try simp [hla,hlb,hn]) | (refine T_draw tOK tmix [([], 0), ([], 1), ([0, 1], 2), ([0, 1, 2], 3), ([], 4), ([], 5), ([4, 5], 6), ([4, 5, 6], 7), ([0, 1, 2, 3, 4, 5, 6, 7], 8)] 8 (by decide +kernel) ?_; simp [hla,hlb,hn]))
    refine T_loop ?_
    refine TL_keep [0, 1, 5] ?_
    simp [Fr.keep]
    refine TL_st a.length (fun k fr σ => fr = [(0, .lit (strs a)), (1, .lit (strs b)), (5, i64 k)] ∧ σ = [] ∧ a.take k = b.take k) ?_ ?_ ⟨rfl, rfl, by simp⟩
    · rintro fr σ ⟨rfl, rfl, hp⟩
      rw [List.take_length, hlen, List.take_length] at hp
      subst hp
      simp at h
      refine TL_round ?_
      repeat (first | (refine T_seqk fun K hK => ?_) | (refine T_reg tOK rfl ?_; simp [hla]) | (refine T_ret ?_; try simp) | (refine T_skip ?_; try simp) | (refine T_blockk fun K hK => ?_) | (with_reducible apply_assumption -exfalso -symm) | (rw [afterRF_ret]; simp [hla]) | (refine T_exit ?_; try simp) | (refine T_cond_t ?_ ?_; · (simp; done)) | (refine T_cond_f ?_ ?_; · (simp; done)) | (rintro _ _ (_ | _) hz9 <;> first | (simp; done) | (simp at hz9; done)) | (refine And.intro ?_ ?_) | (simp only [Post.block_ret, Post.block_exit, Post.block_normal, Post.block_pan, Post.seq_ret, Post.seq_exit, Post.seq_normal, Post.seq_pan]; try simp [hla]) | (refine T_draw tOK tmix [([], 0), ([], 1), ([0, 1], 2), ([0, 1, 2], 3), ([], 4), ([], 5), ([4, 5], 6), ([4, 5, 6], 7), ([0, 1, 2, 3, 4, 5, 6, 7], 8)] 8 (by decide +kernel) ?_; simp [hla]))
    · rintro k fr σ hk ⟨rfl, rfl, hp⟩ ih
      replace ih := PLift.up ih
      have hkb : k < b.length := by omega
      have hk0 : decide (k < a.length) = true := by simpa using hk
      have hwk : IntKind.i64.wrap ((k : Int) + 1) = ((k + 1 : Nat) : Int) := by rw [IntWalk.i64_in _ (by omega)]; omega
      have ea : (strs a)[k]? = some (.str ⟨a[k].toArray⟩) := by simp [strs, hk]
      have eb : (strs b)[k]? = some (.str ⟨b[k].toArray⟩) := by simp [strs, hkb]
      have la : k < (strs a).length := by omega
      have lb : k < (strs b).length := by omega
      have ea' := get_of ea la
      have eb' := get_of eb lb
      have hda : (ByteArray.mk a[k].toArray).toList = a[k] := by rw [bytes_toList]
      have hdb : (ByteArray.mk b[k].toArray).toList = b[k] := by rw [bytes_toList]
      refine TL_round ?_
      cases hb : (a[k] == b[k]) with
      | false =>
        have : (a == b) = false := by
          rw [beq_eq_false_iff_ne]; rintro rfl; simp at hb
        rw [this] at h
        clear ih
        repeat (first | (refine T_seqk fun K hK => ?_) | (refine T_reg tOK rfl ?_; simp [hk0,hwk,ea,eb,ea',eb',la,lb,hb,hla,hlb,hk,hkb,hda,hdb]) | (refine T_ret ?_; try simp) | (refine T_skip ?_; try simp) | (refine T_blockk fun K hK => ?_) | (with_reducible apply_assumption -exfalso -symm) | (rw [afterRF_ret]; simp [hk0,hwk,ea,eb,ea',eb',la,lb,hb,hla,hlb,hk,hkb,hda,hdb]) | (refine T_exit ?_; try simp) | (refine T_cond_t ?_ ?_; · (simp; done)) | (refine T_cond_f ?_ ?_; · (simp; done)) | (rintro _ _ (_ | _) hz9 <;> first | (simp; done) | (simp at hz9; done)) | (refine And.intro ?_ ?_) | (simp only [Post.block_ret, Post.block_exit, Post.block_normal, Post.block_pan, Post.seq_ret, Post.seq_exit, Post.seq_normal, Post.seq_pan]; try simp [hk0,hwk,ea,eb,ea',eb',la,lb,hb,hla,hlb,hk,hkb,hda,hdb]) | (refine T_draw tOK tmix [([], 0), ([], 1), ([0, 1], 2), ([0, 1, 2], 3), ([], 4), ([], 5), ([4, 5], 6), ([4, 5, 6], 7), ([0, 1, 2, 3, 4, 5, 6, 7], 8)] 8 (by decide +kernel) ?_; simp [hk0,hwk,ea,eb,ea',eb',la,lb,hb,hla,hlb,hk,hkb,hda,hdb]))
      | true =>
        repeat (first | (refine T_seqk fun K hK => ?_) | (refine T_reg tOK rfl ?_; simp [hk0,hwk,ea,eb,ea',eb',la,lb,hb,hla,hlb,hk,hkb,hda,hdb]) | (refine T_ret ?_; try simp) | (refine T_skip ?_; try simp) | (refine T_blockk fun K hK => ?_) | (with_reducible apply_assumption -exfalso -symm) | (rw [afterRF_ret]; simp [hk0,hwk,ea,eb,ea',eb',la,lb,hb,hla,hlb,hk,hkb,hda,hdb]) | (refine T_exit ?_; try simp) | (refine T_cond_t ?_ ?_; · (simp; done)) | (refine T_cond_f ?_ ?_; · (simp; done)) | (rintro _ _ (_ | _) hz9 <;> first | (simp; done) | (simp at hz9; done)) | (refine And.intro ?_ ?_) | (simp only [Post.block_ret, Post.block_exit, Post.block_normal, Post.block_pan, Post.seq_ret, Post.seq_exit, Post.seq_normal, Post.seq_pan]; try simp [hk0,hwk,ea,eb,ea',eb',la,lb,hb,hla,hlb,hk,hkb,hda,hdb]) | (refine T_draw tOK tmix [([], 0), ([], 1), ([0, 1], 2), ([0, 1, 2], 3), ([], 4), ([], 5), ([4, 5], 6), ([4, 5, 6], 7), ([0, 1, 2, 3, 4, 5, 6, 7], 8)] 8 (by decide +kernel) ?_; simp [hk0,hwk,ea,eb,ea',eb',la,lb,hb,hla,hlb,hk,hkb,hda,hdb]))
        refine TL_fall (fr' := [(0, .lit (strs a)), (1, .lit (strs b)), (5, i64 ((k + 1 : Nat) : Int))]) (σ' := []) 0 [0, 1, 5] (by simp) (by simp [Fr.keep]) (by simp [belowFr, belowB, belowL_of_pure 0 _ (pureL_strs a), belowL_of_pure 0 _ (pureL_strs b)]) (by simp) rfl (ih.down _ _ ⟨rfl, rfl, ?_⟩)
        have he : a[k] = b[k] := by simpa using hb
        rw [List.take_add_one, List.take_add_one, hp, List.getElem?_eq_getElem hk, List.getElem?_eq_getElem hkb, he]
end
end Go.Proofs.Ytdplbgfokoajjaa
end
section
/- Manifests' live question. -/
set_option linter.unusedVariables false
set_option linter.unusedSimpArgs false
set_option maxRecDepth 20000
namespace Go.Proofs.Ytdplbgfokoajjaa
open Go
attribute [local simp] RF_nil RF_cons afterRF_ret nilCmp sop sGuard isCall sCallee Fr.eval Fr.get Fr.put ofConst sLoad sStore sBuiltin Fr.args bodyQ sRes oneOf sBin sInt sUn
attribute [local simp] RD_nil RD_cons noConf clear accAdd Tab.pr Tab.slot foot wid idOf refId Op.operands Call.operands sFieldAddr sNilCheck sLookup keyLit sMapSet sMapDel sLen Store.at Store.new getP setP typeAt fits evalParts sBuildSlice sFill sList sApp sAppend frzRe frz pureB pureL
attribute [local simp] optEval sSlice sIndexAddr xop sClear

def hmB : List UInt8 := manPut [0, 258]
def hm0 : Dk := ⟨100, [], -1, 0⟩
def hm1 : Dk := (manSwap hm0 [3, 5]).2
def hm2 : Dk := setFail hm1 1
def hm3 : Dk := (manSwap hm2 [9]).2
theorem mB1 : hmB.length = 13 := by decide +kernel
theorem mB2 : hmB.take 9 = [2, 0, 0, 0, 0, 0, 0, 1, 2] := by decide +kernel
theorem mB3 : manGet hmB = ([0, 258], 0) := by decide +kernel
theorem mB4 : manGet (hmB.take 6) = ([], 12) := by decide +kernel
theorem mB5 : manPut [] = [] := by decide +kernel
theorem ml0 : manLoad hm0 = ([], 3) := by decide +kernel
theorem ms0 : manSwap hm0 [5, 3] = (1, hm0) := by decide +kernel
theorem ms1 : (manSwap hm0 [3, 5]).1 = 0 := by decide +kernel
theorem ms2 : (manSwap hm2 [9]).1 = 41 := by decide +kernel
theorem ml3 : manLoad hm3 = ([3, 5], 0) := by decide +kernel
theorem mf3 : hm3.files.map (·.1) = [filN.data.toList] := by decide +kernel
theorem mn3 : names hm3 = [filN.data.toList] := by
  unfold names
  rw [mf3]; simp
theorem iw0 : Inv hm0 := Inv.new (by decide) (by decide)
theorem iw1 : Inv hm1 := iw0.swap
theorem iw2 : Inv hm2 := iw1.setFail (by decide)
theorem iw3 : Inv hm3 := iw2.swap
section
variable {R : Re → Store → Prop} {σ : Store}
theorem u8sOf_u8l (l : List UInt8) : u8sOf (u8l l) = some l := u8sOf_map l
set_option maxHeartbeats 8000000 in
theorem C_mhead_aux {B : List UInt8} {d0 d1 d2 d3 : Dk} (hd0 : d0 = ⟨100, [], -1, 0⟩) (mB : manPut [0, 258] = B) (mB1 : B.length = 13) (mB2 : B.take 9 = [2, 0, 0, 0, 0, 0, 0, 1, 2]) (mB3 : manGet B = ([0, 258], 0)) (mB4 : manGet (B.take 6) = ([], 12))
    (ml0 : manLoad d0 = ([], 3)) (ms0 : manSwap d0 [5, 3] = (1, d0)) (ms1 : manSwap d0 [3, 5] = (0, d1)) (md2 : setFail d1 1 = d2) (ms2 : manSwap d2 [9] = (41, d3)) (ml3 : manLoad d3 = ([3, 5], 0)) (mn3 : names d3 = [filN.data.toList])
    (iw0 : Inv d0) (iw1 : Inv d1) (iw2 : Inv d2) (iw3 : Inv d3) (h : R (.ret (.bool true)) σ) : C tE 5 [] σ R := by
  have w6 : IntKind.i64.wrap 6 = 6 := by decide
  refine C_pure tOK rfl ?_
  refine C_bodyk tOK Try.func5 rfl (Nat.le_of_ble_eq_true rfl) fun K hK => ?_; simp
  repeat (first | (refine T_seqk fun K hK => ?_) | (refine T_reg tOK rfl ?_; simp) | (refine T_ret ?_; try simp) | (refine T_skip ?_; try simp) | (refine T_blockk fun K hK => ?_) | (with_reducible apply_assumption -exfalso -symm) | (rw [afterRF_ret]; simp) | (refine T_exit ?_; try simp) | (refine T_cond_t ?_ ?_; · (simp; done)) | (refine T_cond_f ?_ ?_; · (simp; done)) | (rintro _ _ (_ | _) hz9 <;> first | (simp; done) | (simp at hz9; done)) | (refine And.intro ?_ ?_) | (simp only [Post.block_ret, Post.block_exit, Post.block_normal, Post.block_pan, Post.seq_ret, Post.seq_exit, Post.seq_normal, Post.seq_pan]; try simp) | (refine T_loop (TL_round ?_)) | (refine TL_round ?_))
  refine C_new_ok rfl rfl ?_
  repeat (first | (refine T_seqk fun K hK => ?_) | (refine T_reg tOK rfl ?_; simp) | (refine T_ret ?_; try simp) | (refine T_skip ?_; try simp) | (refine T_blockk fun K hK => ?_) | (with_reducible apply_assumption -exfalso -symm) | (rw [afterRF_ret]; simp) | (refine T_exit ?_; try simp) | (refine T_cond_t ?_ ?_; · (simp; done)) | (refine T_cond_f ?_ ?_; · (simp; done)) | (rintro _ _ (_ | _) hz9 <;> first | (simp; done) | (simp at hz9; done)) | (refine And.intro ?_ ?_) | (simp only [Post.block_ret, Post.block_exit, Post.block_normal, Post.block_pan, Post.seq_ret, Post.seq_exit, Post.seq_normal, Post.seq_pan]; try simp) | (refine T_loop (TL_round ?_)) | (refine TL_round ?_))
  rw [show [some (Blk.mp 9 []), some (Blk.cells 74 0 [PV.agg 74 [i64 100, PV.map 0, i64 (-1), i64 0]]), some (Blk.cells 2 0 [PV.int IntKind.i64 0, PV.int IntKind.i64 258])] = [some (dkM d0), some (dkBj d0 0), some (Blk.cells 2 0 (is [0, 258]))] by rw [hd0]; rfl]
  refine C_still (pre := []) rfl rfl rfl ?_
  refine C_put (l := [0, 258]) (by decide) ?_
  rw [mB]
  repeat (first | (refine T_seqk fun K hK => ?_) | (refine T_reg tOK rfl ?_; simp) | (refine T_ret ?_; try simp) | (refine T_skip ?_; try simp) | (refine T_blockk fun K hK => ?_) | (with_reducible apply_assumption -exfalso -symm) | (rw [afterRF_ret]; simp) | (refine T_exit ?_; try simp) | (refine T_cond_t ?_ ?_; · (simp; done)) | (refine T_cond_f ?_ ?_; · (simp; done)) | (rintro _ _ (_ | _) hz9 <;> first | (simp; done) | (simp at hz9; done)) | (refine And.intro ?_ ?_) | (simp only [Post.block_ret, Post.block_exit, Post.block_normal, Post.block_pan, Post.seq_ret, Post.seq_exit, Post.seq_normal, Post.seq_pan]; try simp) | (refine T_loop (TL_round ?_)) | (refine TL_round ?_))
  refine C_get (b := B) (by rw [mB1]; decide) ?_
  rw [mB3]
  have hl : (u8l B).length = 13 := by rw [u8l_len, mB1]
  have ht6 : (u8l B).take 6 = u8l (B.take 6) := by simp [u8l, List.map_take]
  have ht9 : (u8l B).take 9 = u8l [2, 0, 0, 0, 0, 0, 0, 1, 2] := by rw [← mB2]; simp only [u8l, List.map_take]
  repeat (first | (refine T_seqk fun K hK => ?_) | (refine T_reg tOK rfl ?_; simp [hl,w6,ht6]) | (refine T_ret ?_; try simp) | (refine T_skip ?_; try simp) | (refine T_blockk fun K hK => ?_) | (with_reducible apply_assumption -exfalso -symm) | (rw [afterRF_ret]; simp [hl,w6,ht6]) | (refine T_exit ?_; try simp) | (refine T_cond_t ?_ ?_; · (simp; done)) | (refine T_cond_f ?_ ?_; · (simp; done)) | (rintro _ _ (_ | _) hz9 <;> first | (simp; done) | (simp at hz9; done)) | (refine And.intro ?_ ?_) | (simp only [Post.block_ret, Post.block_exit, Post.block_normal, Post.block_pan, Post.seq_ret, Post.seq_exit, Post.seq_normal, Post.seq_pan]; try simp [hl,w6,ht6]) | (refine T_loop (TL_round ?_)) | (refine TL_round ?_))
  refine C_get (b := B.take 6) (by simp [mB1]) ?_
  rw [mB4]
  repeat (first | (refine T_seqk fun K hK => ?_) | (refine T_reg tOK rfl ?_; simp) | (refine T_ret ?_; try simp) | (refine T_skip ?_; try simp) | (refine T_blockk fun K hK => ?_) | (with_reducible apply_assumption -exfalso -symm) | (rw [afterRF_ret]; simp) | (refine T_exit ?_; try simp) | (refine T_cond_t ?_ ?_; · (simp; done)) | (refine T_cond_f ?_ ?_; · (simp; done)) | (rintro _ _ (_ | _) hz9 <;> first | (simp; done) | (simp at hz9; done)) | (refine And.intro ?_ ?_) | (simp only [Post.block_ret, Post.block_exit, Post.block_normal, Post.block_pan, Post.seq_ret, Post.seq_exit, Post.seq_normal, Post.seq_pan]; try simp) | (refine T_loop (TL_round ?_)) | (refine TL_round ?_))
  refine C_load_at (i := 1) (j := 0) (d := d0) ⟨by decide, rfl, rfl⟩ iw0 ?_
  rw [ml0]
  repeat (first | (refine T_seqk fun K hK => ?_) | (refine T_reg tOK rfl ?_; simp) | (refine T_ret ?_; try simp) | (refine T_skip ?_; try simp) | (refine T_blockk fun K hK => ?_) | (with_reducible apply_assumption -exfalso -symm) | (rw [afterRF_ret]; simp) | (refine T_exit ?_; try simp) | (refine T_cond_t ?_ ?_; · (simp; done)) | (refine T_cond_f ?_ ?_; · (simp; done)) | (rintro _ _ (_ | _) hz9 <;> first | (simp; done) | (simp at hz9; done)) | (refine And.intro ?_ ?_) | (simp only [Post.block_ret, Post.block_exit, Post.block_normal, Post.block_pan, Post.seq_ret, Post.seq_exit, Post.seq_normal, Post.seq_pan]; try simp) | (refine T_loop (TL_round ?_)) | (refine TL_round ?_))
  refine C_still (pre := [.ptr 1 0 0 []]) rfl rfl rfl ?_
  refine C_swap_at (i := 1) (j := 0) (d := d0) (l := [5, 3]) ⟨by decide, rfl, rfl⟩ iw0 (by decide) ?_
  rw [ms0]
  simp [dkPut]
  repeat (first | (refine T_seqk fun K hK => ?_) | (refine T_reg tOK rfl ?_; simp) | (refine T_ret ?_; try simp) | (refine T_skip ?_; try simp) | (refine T_blockk fun K hK => ?_) | (with_reducible apply_assumption -exfalso -symm) | (rw [afterRF_ret]; simp) | (refine T_exit ?_; try simp) | (refine T_cond_t ?_ ?_; · (simp; done)) | (refine T_cond_f ?_ ?_; · (simp; done)) | (rintro _ _ (_ | _) hz9 <;> first | (simp; done) | (simp at hz9; done)) | (refine And.intro ?_ ?_) | (simp only [Post.block_ret, Post.block_exit, Post.block_normal, Post.block_pan, Post.seq_ret, Post.seq_exit, Post.seq_normal, Post.seq_pan]; try simp) | (refine T_loop (TL_round ?_)) | (refine TL_round ?_))
  refine C_still (pre := [.ptr 1 0 0 []]) rfl rfl rfl ?_
  refine C_swap_at (i := 1) (j := 0) (d := d0) (l := [3, 5]) ⟨by decide, rfl, rfl⟩ iw0 (by decide) ?_
  rw [ms1]
  simp [dkPut]
  repeat (first | (refine T_seqk fun K hK => ?_) | (refine T_reg tOK rfl ?_; simp) | (refine T_ret ?_; try simp) | (refine T_skip ?_; try simp) | (refine T_blockk fun K hK => ?_) | (with_reducible apply_assumption -exfalso -symm) | (rw [afterRF_ret]; simp) | (refine T_exit ?_; try simp) | (refine T_cond_t ?_ ?_; · (simp; done)) | (refine T_cond_f ?_ ?_; · (simp; done)) | (rintro _ _ (_ | _) hz9 <;> first | (simp; done) | (simp at hz9; done)) | (refine And.intro ?_ ?_) | (simp only [Post.block_ret, Post.block_exit, Post.block_normal, Post.block_pan, Post.seq_ret, Post.seq_exit, Post.seq_normal, Post.seq_pan]; try simp) | (refine T_loop (TL_round ?_)) | (refine TL_round ?_))
  refine C_fail_at (i := 1) (j := 0) (d := d1) (n := 1) ⟨by decide, rfl, rfl⟩ ?_
  rw [md2]
  simp [dkPut]
  repeat (first | (refine T_seqk fun K hK => ?_) | (refine T_reg tOK rfl ?_; simp) | (refine T_ret ?_; try simp) | (refine T_skip ?_; try simp) | (refine T_blockk fun K hK => ?_) | (with_reducible apply_assumption -exfalso -symm) | (rw [afterRF_ret]; simp) | (refine T_exit ?_; try simp) | (refine T_cond_t ?_ ?_; · (simp; done)) | (refine T_cond_f ?_ ?_; · (simp; done)) | (rintro _ _ (_ | _) hz9 <;> first | (simp; done) | (simp at hz9; done)) | (refine And.intro ?_ ?_) | (simp only [Post.block_ret, Post.block_exit, Post.block_normal, Post.block_pan, Post.seq_ret, Post.seq_exit, Post.seq_normal, Post.seq_pan]; try simp) | (refine T_loop (TL_round ?_)) | (refine TL_round ?_))
  refine C_still (pre := [.ptr 1 0 0 []]) rfl rfl rfl ?_
  refine C_swap_at (i := 1) (j := 0) (d := d2) (l := [9]) ⟨by decide, rfl, rfl⟩ iw2 (by decide) ?_
  rw [ms2]
  simp [dkPut]
  repeat (first | (refine T_seqk fun K hK => ?_) | (refine T_reg tOK rfl ?_; simp) | (refine T_ret ?_; try simp) | (refine T_skip ?_; try simp) | (refine T_blockk fun K hK => ?_) | (with_reducible apply_assumption -exfalso -symm) | (rw [afterRF_ret]; simp) | (refine T_exit ?_; try simp) | (refine T_cond_t ?_ ?_; · (simp; done)) | (refine T_cond_f ?_ ?_; · (simp; done)) | (rintro _ _ (_ | _) hz9 <;> first | (simp; done) | (simp at hz9; done)) | (refine And.intro ?_ ?_) | (simp only [Post.block_ret, Post.block_exit, Post.block_normal, Post.block_pan, Post.seq_ret, Post.seq_exit, Post.seq_normal, Post.seq_pan]; try simp) | (refine T_loop (TL_round ?_)) | (refine TL_round ?_))
  refine C_load_at (i := 1) (j := 0) (d := d3) ⟨by decide, rfl, rfl⟩ iw3 ?_
  rw [ml3]
  repeat (first | (rw [afterRF_ret]; simp ) | with_reducible apply_assumption -exfalso -symm)
  refine T_seqk fun K hK => ?_
  refine T_keep [1, 2, 3, 4, 6, 8, 9, 10, 11, 12, 13] ?_
  simp [Fr.keep]
  refine T_regk tOK rfl fun O9 hO9 => ?_
  have g9_3 : (O9[3]?).bind (·.dst) = some 57 := by rw [hO9]; rfl
  have g9_9 : (O9[9]?).bind (·.dst) = some 63 := by rw [hO9]; rfl
  have g9_14 : (O9[14]?).bind (·.dst) = some 68 := by rw [hO9]; rfl
  have g9_18 : (O9[18]?).bind (·.dst) = some 72 := by rw [hO9]; rfl
  have g9_22 : (O9[22]?).bind (·.dst) = some 76 := by rw [hO9]; rfl
  have g9_26 : (O9[26]?).bind (·.dst) = some 80 := by rw [hO9]; rfl
  have g9_30 : (O9[30]?).bind (·.dst) = some 84 := by rw [hO9]; rfl
  have g9_34 : (O9[34]?).bind (·.dst) = some 88 := by rw [hO9]; rfl
  have g9_38 : (O9[38]?).bind (·.dst) = some 92 := by rw [hO9]; rfl
  have g9_43 : (O9[43]?).bind (·.dst) = some 97 := by rw [hO9]; rfl
  have g9_47 : (O9[47]?).bind (·.dst) = some 101 := by rw [hO9]; rfl
  have g9_53 : (O9[53]?).bind (·.dst) = some 107 := by rw [hO9]; rfl
  clear hO9
  simp [-RF_cons]
  try (rw [afterRF_ret]; simp [-RF_cons, g9_3, g9_9, g9_14, g9_18, g9_22, g9_26, g9_30, g9_34, g9_38, g9_43, g9_47, g9_53, hl,ht9,u8sOf_u8l])
  repeat (rw [RF_cons]; simp [-RF_cons, g9_3, g9_9, g9_14, g9_18, g9_22, g9_26, g9_30, g9_34, g9_38, g9_43, g9_47, g9_53, hl,ht9,u8sOf_u8l])
  refine C_lend tOK (args' := [.lit (is [0, 258]), .lit (is [0, 258])]) rfl (C_samei (by decide) (by decide) ⟨rfl, ?_⟩)
  rw [show (([0, 258] : List Int) == [0, 258]) = true by decide]
  try (rw [afterRF_ret]; simp [-RF_cons, g9_3, g9_9, g9_14, g9_18, g9_22, g9_26, g9_30, g9_34, g9_38, g9_43, g9_47, g9_53, ])
  repeat (rw [RF_cons]; simp [-RF_cons, g9_3, g9_9, g9_14, g9_18, g9_22, g9_26, g9_30, g9_34, g9_38, g9_43, g9_47, g9_53, ])
  refine C_lend tOK (args' := [.lit (is [3, 5]), .lit (is [3, 5])]) rfl (C_samei (by decide) (by decide) ⟨rfl, ?_⟩)
  rw [show (([3, 5] : List Int) == [3, 5]) = true by decide]
  try (rw [afterRF_ret]; simp [-RF_cons, g9_3, g9_9, g9_14, g9_18, g9_22, g9_26, g9_30, g9_34, g9_38, g9_43, g9_47, g9_53, ])
  repeat (rw [RF_cons]; simp [-RF_cons, g9_3, g9_9, g9_14, g9_18, g9_22, g9_26, g9_30, g9_34, g9_38, g9_43, g9_47, g9_53, ])
  refine C_list_at (i := 1) (j := 0) (d := d3) ⟨by decide, rfl, rfl⟩ iw3 ?_
  rw [mn3]
  try (rw [afterRF_ret]; simp [-RF_cons, g9_3, g9_9, g9_14, g9_18, g9_22, g9_26, g9_30, g9_34, g9_38, g9_43, g9_47, g9_53, ])
  repeat (rw [RF_cons]; simp [-RF_cons, g9_3, g9_9, g9_14, g9_18, g9_22, g9_26, g9_30, g9_34, g9_38, g9_43, g9_47, g9_53, ])
  refine C_lend tOK (args' := [.lit (strs [filN.data.toList]), .lit (strs [filN.data.toList])]) rfl (C_sames (by decide) (by decide) ⟨rfl, ?_⟩)
  rw [show (([filN.data.toList] : List (List UInt8)) == [filN.data.toList]) = true by decide]
  try (rw [afterRF_ret]; simp [-RF_cons, g9_3, g9_9, g9_14, g9_18, g9_22, g9_26, g9_30, g9_34, g9_38, g9_43, g9_47, g9_53, ])
  repeat (rw [RF_cons]; simp [-RF_cons, g9_3, g9_9, g9_14, g9_18, g9_22, g9_26, g9_30, g9_34, g9_38, g9_43, g9_47, g9_53, ])
  refine C_weak (args' := [.lit (is [])]) (fun c vs h => VL_nils (xs := []) h) (C_put (l := []) (by decide) ?_)
  rw [mB5]
  have hn : (u8l []).length = 0 := rfl
  try (rw [afterRF_ret]; simp [-RF_cons, g9_3, g9_9, g9_14, g9_18, g9_22, g9_26, g9_30, g9_34, g9_38, g9_43, g9_47, g9_53, hn])
  repeat (rw [RF_cons]; simp [-RF_cons, g9_3, g9_9, g9_14, g9_18, g9_22, g9_26, g9_30, g9_34, g9_38, g9_43, g9_47, g9_53, hn])
  refine hK _ _ ?_
  repeat (first | (refine T_seqk fun K hK => ?_) | (refine T_reg tOK rfl ?_; simp) | (refine T_ret ?_; try simp) | (refine T_skip ?_; try simp) | (refine T_blockk fun K hK => ?_) | (with_reducible apply_assumption -exfalso -symm) | (rw [afterRF_ret]; simp) | (refine T_exit ?_; try simp) | (refine T_cond_t ?_ ?_; · (simp; done)) | (refine T_cond_f ?_ ?_; · (simp; done)) | (rintro _ _ (_ | _) hz9 <;> first | (simp; done) | (simp at hz9; done)) | (refine And.intro ?_ ?_) | (simp only [Post.block_ret, Post.block_exit, Post.block_normal, Post.block_pan, Post.seq_ret, Post.seq_exit, Post.seq_normal, Post.seq_pan]; try simp) | (refine T_loop (TL_round ?_)) | (refine TL_round ?_))
theorem C_mhead (h : R (.ret (.bool true)) σ) : C tE 5 [] σ R :=
  C_mhead_aux (B := hmB) (d0 := hm0) (d1 := hm1) (d2 := hm2) (d3 := hm3) rfl rfl mB1 mB2 mB3 mB4 ml0 ms0 (Prod.ext ms1 rfl) rfl (Prod.ext ms2 rfl) ml3 mn3 iw0 iw1 iw2 iw3 h
end
end Go.Proofs.Ytdplbgfokoajjaa
end
section
/- ManifestRight: the walk. -/
set_option linter.unusedVariables false
set_option linter.unusedSimpArgs false
set_option maxRecDepth 20000
namespace Go.Proofs.Ytdplbgfokoajjaa
open Go
attribute [local simp] RF_nil RF_cons afterRF_ret nilCmp sop sGuard isCall sCallee Fr.eval Fr.get Fr.put ofConst sLoad sStore sBuiltin Fr.args bodyQ sRes oneOf sBin sInt sUn
attribute [local simp] RD_nil RD_cons noConf clear accAdd Tab.pr Tab.slot foot wid idOf refId Op.operands Call.operands sFieldAddr sNilCheck sLookup keyLit sMapSet sMapDel sLen Store.at Store.new getP setP typeAt fits evalParts sBuildSlice sFill sList sApp sAppend frzRe frz pureB pureL
attribute [local simp] optEval sSlice sIndexAddr xop sClear

/-- Whether the first k numbers are right. -/
def wk (l : List Int) (k : Nat) : Bool := decide (1 ≤ l.length) && decide (l.length ≤ 40) && (l.take k).all inB && rises (l.take k)
theorem rises_snoc : ∀ {l : List Int} {x : Int}, rises (l ++ [x]) = (rises l && (l.isEmpty || decide (l.getLastD 0 < x)))
  | [], x => by simp [rises]
  | [a], x => by simp [rises]
  | a :: b :: l, x => by
    have ih := rises_snoc (l := b :: l) (x := x)
    simp only [List.cons_append] at ih ⊢
    simp only [rises, ih, List.isEmpty_cons, Bool.false_or, Bool.and_assoc]
    simp
theorem wk_zero {l : List Int} : wk l 0 = (decide (1 ≤ l.length) && decide (l.length ≤ 40)) := by simp [wk, rises]
theorem wk_full {l : List Int} : wk l l.length = okL l := by
  unfold wk okL
  rw [List.take_length]
  rfl
theorem wk_succ0 {l : List Int} (h : 0 < l.length) : wk l 1 = (wk l 0 && inB l[0]) := by
  cases l with
  | nil => simp at h
  | cons a l => simp [wk, rises]
theorem wk_succ {l : List Int} {k : Nat} (h : k + 1 < l.length) : wk l (k + 2) = (wk l (k + 1) && inB l[k + 1] && decide (l[k] < l[k + 1])) := by
  unfold wk
  rw [List.take_add_one (i := k + 1), List.getElem?_eq_getElem h]
  simp only [Option.toList, List.all_append, List.all_cons, List.all_nil, Bool.and_true, rises_snoc]
  have h1 : (l.take (k + 1)).isEmpty = false := by cases l <;> simp at h ⊢
  have h2 : (l.take (k + 1)).getLastD 0 = l[k] := by
    rw [List.getLastD_eq_getLast?, List.getLast?_take]
    simp [show k < l.length by omega]
  rw [h1, h2]
  simp only [Bool.false_or]
  generalize decide (1 ≤ l.length) = a
  generalize decide (l.length ≤ 40) = b
  generalize (l.take (k + 1)).all inB = c
  generalize inB l[k + 1] = d
  generalize rises (l.take (k + 1)) = e
  generalize decide (l[k] < l[k + 1]) = f
  revert a b c d e f
  decide
/-- One less is right still, if one is left. -/
theorem okL_less {l : List Int} (h : okL l = true) {k : Nat} (hk : k < l.length) : okL (l.take k ++ l.drop (k + 1)) = decide (1 < l.length) := by
  unfold okL at h ⊢
  simp only [Bool.and_eq_true, decide_eq_true_eq] at h
  obtain ⟨⟨⟨h1, h2⟩, h3⟩, h4⟩ := h
  have hlen : (l.take k ++ l.drop (k + 1)).length = l.length - 1 := by simp; omega
  have hin : (l.take k ++ l.drop (k + 1)).all inB = true := by
    rw [List.all_append, Bool.and_eq_true]
    exact ⟨List.all_eq_true.2 fun x hx => List.all_eq_true.1 h3 x (List.mem_of_mem_take hx), List.all_eq_true.2 fun x hx => List.all_eq_true.1 h3 x (List.mem_of_mem_drop hx)⟩
  have hri : rises (l.take k ++ l.drop (k + 1)) = true := by
    have hp : l.Pairwise (· < ·) := by
      refine List.pairwise_iff_getElem.2 fun i j hi hj hij => ?_
      have hs := rises_iff.1 h4
      have key : ∀ d i, (hi : i + d + 1 < l.length) → l[i] < l[i + d + 1] := by
        intro d
        induction d with
        | zero => intro i hi; have := hs i hi; simpa [hi, show i < l.length by omega] using this
        | succ d ih =>
          intro i hi
          have a := ih i (by omega)
          have b := hs (i + d + 1) hi
          simp only [List.getD_eq_getElem?_getD, List.getElem?_eq_getElem (show i + d + 1 < l.length by omega), List.getElem?_eq_getElem (show i + d + 1 + 1 < l.length by omega), Option.getD_some] at b
          exact Int.lt_trans a b
      have := key (j - i - 1) i (by omega)
      simpa [show i + (j - i - 1) + 1 = j by omega] using this
    have hq : (l.take k ++ l.drop (k + 1)).Pairwise (· < ·) := by
      refine List.Pairwise.sublist ?_ hp
      have : l.take k ++ l.drop (k + 1) = l.eraseIdx k := (List.eraseIdx_eq_take_drop_succ l k).symm
      rw [this]; exact List.eraseIdx_sublist l k
    refine rises_iff.2 fun i hi => ?_
    have := List.pairwise_iff_getElem.1 hq i (i + 1) (by omega) hi (by omega)
    simp only [List.getD_eq_getElem?_getD, List.getElem?_eq_getElem (show i < (l.take k ++ l.drop (k + 1)).length by omega), List.getElem?_eq_getElem hi, Option.getD_some]
    exact this
  rw [hlen, hin, hri]
  simp only [Bool.and_true]
  rw [show decide (l.length - 1 ≤ 40) = true from decide_eq_true (by omega), Bool.and_true]
  congr 1
  simp; omega
theorem wk_step {l : List Int} {k : Nat} (h : k < l.length) : wk l (k + 1) = (wk l k && (decide (0 ≤ l[k]) && (decide (l[k] ≤ 1073741824) && (k == 0 || decide (l[k - 1]! < l[k]))))) := by
  cases k with
  | zero => rw [wk_succ0 h]; simp [inB]
  | succ k =>
    rw [wk_succ h]
    have : l[k + 1 - 1]! = l[k] := by simp [show k < l.length by omega]
    rw [this]
    simp [inB, Bool.and_assoc]
section
variable {E : Env} {N z : Nat} {Q : Post} {fr : Fr} {σ : Store}
/-- A step whose ends all look alike, trimmed. -/
theorem T_seqkk {x y : Code} (ts : List Nat) (fr' : Fr) (σ' : Store) (h1 : ∀ K : Fr → Store → Prop, (∀ fr σ, Fr.keep ts fr = fr' → σ = σ' → K fr σ) → T E N z x (Post.seq K Q) fr σ) (h2 : T E N z y Q fr' σ') : T E N z (.seq x y) Q fr σ :=
  T_seqk fun K hK => h1 K fun fr σ e1 e2 => hK _ _ (T_keep ts (by rw [e1, e2]; exact h2))
end
section
variable {E : Env} {N z : Nat} {Q : Post} {fr : Fr} {σ : Store}
theorem T_fall {c : Code} {fr' : Fr} {σ' : Store} (n : Nat) (ts : List Nat) (hz : z ≤ n) (hfr : Fr.keep ts fr = fr') (hb : belowFr n fr' = true) (hσ : σ.take n = σ') (hall : belowStore n σ' = true) (h : T E N z c Q fr' σ') : T E N z c Q fr σ := fun cx a ht hn hf => by
  subst hfr hσ
  have hn' := hn.upto n (Nat.le_trans ht hz) hall
  have hf0 := hf.keep ts
  have hf' : FR E (cx.upto n) N (Fr.keep ts fr) a.tmps := ⟨hf0.1, fun t x hx => by
    obtain ⟨h1, h2⟩ := hf0.2 t x hx
    refine ⟨h1, VL.lower h2 (n := n) ?_ (fun _ h => h) (fun _ _ => rfl) (fun b h h' => ⟨h', h⟩) (fun b m h => (Cx.upto_mu h).2)⟩
    have := List.all_eq_true.1 hb (t, x) (Fr.get_mem hx)
    simpa [belowL] using this⟩
  have hs : Step (cx.below z) (cx.upto n) := ⟨⟨fun _ h => h, fun _ _ => rfl, fun b hb => ⟨Nat.lt_of_lt_of_le hb.2 hz, hb.1⟩, fun b _ m h => ⟨m, (Cx.upto_mu h).2, Nat.le_refl _, fun _ => rfl⟩⟩, fun _ h => h, fun _ _ => rfl, fun _ h => .inl h,
    fun b m h => .inr ⟨b, m, (Cx.upto_mu h).2, rfl⟩, rfl, fun b hb => by
      rcases Nat.lt_or_ge b z with h | h
      · exact .inl ⟨hb.2, h⟩
      · exact .inr (Nat.le_trans ht h), Nat.le_refl _, rfl, rfl, rfl⟩
  exact wr_mono (h (cx.upto n) a ht hn' hf') fun e a w => Lift.step hs
/-- The same, what was allocated inside forgotten. -/
theorem T_seqkf {x y : Code} (n : Nat) (ts : List Nat) (fr' : Fr) (σ' : Store) (hz : z ≤ n) (hb : belowFr n fr' = true) (hall : belowStore n σ' = true) (h1 : ∀ K : Fr → Store → Prop, (∀ fr σ, Fr.keep ts fr = fr' → σ.take n = σ' → K fr σ) → T E N z x (Post.seq K Q) fr σ) (h2 : T E N z y Q fr' σ') : T E N z (.seq x y) Q fr σ :=
  T_seqk fun K hK => h1 K fun fr σ e1 e2 => hK _ _ (T_fall n ts hz e1 hb e2 hall h2)
end
end Go.Proofs.Ytdplbgfokoajjaa
end
section
/- The document's checksum. -/
set_option linter.unusedVariables false
set_option linter.unusedSimpArgs false
set_option maxRecDepth 20000
namespace Go.Proofs.Ytdplbgfokoajjaa
open Go
attribute [local simp] RF_nil RF_cons afterRF_ret nilCmp sop sGuard isCall sCallee Fr.eval Fr.get Fr.put ofConst sLoad sStore sBuiltin Fr.args bodyQ sRes oneOf sBin sInt sUn
attribute [local simp] RD_nil RD_cons noConf clear accAdd Tab.pr Tab.slot foot wid idOf refId Op.operands Call.operands sFieldAddr sNilCheck sLookup keyLit sMapSet sMapDel sLen Store.at Store.new getP setP typeAt fits evalParts sBuildSlice sFill sList sApp sAppend frzRe frz pureB pureL
attribute [local simp] optEval sSlice sIndexAddr xop sClear
section
variable {R : Re → Store → Prop} {σ : Store}
theorem shr32_1 (a : Nat) : (a : Int).fdiv (2 ^ min 1 IntKind.u32.bits) = (a : Int) / 2 := (shr_nat .u32 a 1).trans (by simp [IntKind.bits])
theorem C_rmore {s : Nat} {l : List UInt8} (hs : s < 4294967296) (hl : l.length < 1000000000) (h : R (.ret (.int .u32 (crcM s l : Nat))) σ) : C tE 67 [.int .u32 s, u8s l] σ R := by
  have hll : (u8l l).length = l.length := by simp [u8l]
  have h0 : bits .xor .u32 4294967295 (s : Int) = ((4294967295 ^^^ s : Nat) : Int) := xor32 (a := 4294967295) (by decide) hs
  have hr0 : 4294967295 ^^^ s < 4294967296 := Nat.xor_lt_two_pow (n := 32) (by decide) hs
  refine C_pure tOK (by simp [u8s, pureL_u8]) ?_
  unfold u8s
  refine C_bodyk tOK Try.func67 rfl (Nat.le_of_ble_eq_true rfl) fun K hK => ?_; simp
  repeat (first | (refine T_seqk fun K hK => ?_) | (refine T_reg tOK rfl ?_; simp [h0,hll]) | (refine T_ret ?_; try simp) | (refine T_skip ?_; try simp) | (refine T_blockk fun K hK => ?_) | (with_reducible apply_assumption -exfalso -symm) | (rw [afterRF_ret]; simp [h0,hll]) | (refine T_exit ?_; try simp) | (refine T_cond_t ?_ ?_; · (simp; done)) | (refine T_cond_f ?_ ?_; · (simp; done)) | (rintro _ _ (_ | _) hz9 <;> first | (simp; done) | (simp at hz9; done)) | (refine And.intro ?_ ?_) | (simp only [Post.block_ret, Post.block_exit, Post.block_normal, Post.block_pan, Post.seq_ret, Post.seq_exit, Post.seq_normal, Post.seq_pan]; try simp [h0,hll]))
  refine T_loop ?_
  refine TL_keep [1, 5, 6] ?_
  simp [Fr.keep,h0]
  refine TL_ix (fun k => [(1, .lit (u8l l)), (5, .int .u32 ((l.take k).foldl crcStep (4294967295 ^^^ s) : Nat)), (6, i64 k)]) (fun k => []) l.length (fun _ => True) trivial (fun _ => ?_) (fun k hk _ ih => ?_)
  · refine TL_round ?_
    have hfin : bits .xor .u32 4294967295 ((l.foldl crcStep (4294967295 ^^^ s) : Nat) : Int) = (crcM s l : Nat) := xor32 (a := 4294967295) (by decide) (fold_lt l hr0)
    repeat (first | (refine T_seqk fun K hK => ?_) | (refine T_reg tOK rfl ?_; simp [List.take_length,hfin,hll]) | (refine T_ret ?_; try simp) | (refine T_skip ?_; try simp) | (refine T_blockk fun K hK => ?_) | (with_reducible apply_assumption -exfalso -symm) | (rw [afterRF_ret]; simp [List.take_length,hfin,hll]) | (refine T_exit ?_; try simp) | (refine T_cond_t ?_ ?_; · (simp; done)) | (refine T_cond_f ?_ ?_; · (simp; done)) | (rintro _ _ (_ | _) hz9 <;> first | (simp; done) | (simp at hz9; done)) | (refine And.intro ?_ ?_) | (simp only [Post.block_ret, Post.block_exit, Post.block_normal, Post.block_pan, Post.seq_ret, Post.seq_exit, Post.seq_normal, Post.seq_pan]; try simp [List.take_length,hfin,hll]))
  · refine TL_round ?_
    replace ih := PLift.up (ih trivial)
    have hk0 : decide (k < l.length) = true := by simpa using hk
    have hwk : IntKind.i64.wrap ((k : Int) + 1) = ((k + 1 : Nat) : Int) := by rw [IntWalk.i64_in _ (by omega)]; omega
    have hlk : l[k]? = some l[k] := List.getElem?_eq_getElem hk
    have hel : (u8l l)[k]? = some (.int .u8 (l[k]).toNat) := by simp [u8l, hlk]
    have hlt : k < (u8l l).length := by omega
    have hel2 := get_of hel hlt
    have hfo := fold_take crcStep (4294967295 ^^^ s) hlk
    generalize l[k] = c at *
    have hr := fold_lt (l.take k) hr0
    generalize (l.take k).foldl crcStep (4294967295 ^^^ s) = r at *
    have hc := UInt8.toNat_lt c
    have hx32 : bits .xor .u32 (r : Int) (c.toNat : Int) = ((r ^^^ c.toNat : Nat) : Int) := xor32 hr (by omega)
    have hr1 : r ^^^ c.toNat < 4294967296 := Nat.xor_lt_two_pow (n := 32) (by omega) (by omega)
    have h8 := csN8 r c
    have hwc : IntKind.u32.wrap (c.toNat : Int) = c.toNat := wraps_u32 _ (by omega) (by omega)
    refine T_seqkk [1, 5, 6] [(1, .lit (u8l l)), (5, .int .u32 r), (6, i64 k)] [] (fun K hK => ?_) ?_
    · repeat (first | (refine T_seqk fun K hK => ?_) | (refine T_reg tOK rfl ?_; simp [hll,hk0,Fr.keep]) | (refine T_ret ?_; try simp) | (refine T_skip ?_; try simp) | (refine T_blockk fun K hK => ?_) | (with_reducible apply_assumption -exfalso -symm) | (rw [afterRF_ret]; simp [hll,hk0,Fr.keep]) | (refine T_exit ?_; try simp) | (refine T_cond_t ?_ ?_; · (simp; done)) | (refine T_cond_f ?_ ?_; · (simp; done)) | (rintro _ _ (_ | _) hz9 <;> first | (simp; done) | (simp at hz9; done)) | (refine And.intro ?_ ?_) | (simp only [Post.block_ret, Post.block_exit, Post.block_normal, Post.block_pan, Post.seq_ret, Post.seq_exit, Post.seq_normal, Post.seq_pan]; try simp [hll,hk0,Fr.keep]))
    refine T_seqkk [1, 5, 6] [(1, .lit (u8l l)), (5, .int .u32 (crcStep r c : Nat)), (6, i64 k)] [] (fun K hK => ?_) ?_
    · refine T_blockk fun Q' hQ' => ?_
      refine T_seqkk [1, 5, 6] [(1, .lit (u8l l)), (5, .int .u32 (r ^^^ c.toNat : Nat)), (6, i64 k)] [] (fun K hK => ?_) ?_
      · repeat (first | (refine T_seqk fun K hK => ?_) | (refine T_reg tOK rfl ?_; simp [hel,hel2,hlt,hwc,hx32,Fr.keep]) | (refine T_ret ?_; try simp) | (refine T_skip ?_; try simp) | (refine T_blockk fun K hK => ?_) | (with_reducible apply_assumption -exfalso -symm) | (rw [afterRF_ret]; simp [hel,hel2,hlt,hwc,hx32,Fr.keep]) | (refine T_exit ?_; try simp) | (refine T_cond_t ?_ ?_; · (simp; done)) | (refine T_cond_f ?_ ?_; · (simp; done)) | (rintro _ _ (_ | _) hz9 <;> first | (simp; done) | (simp at hz9; done)) | (refine And.intro ?_ ?_) | (simp only [Post.block_ret, Post.block_exit, Post.block_normal, Post.block_pan, Post.seq_ret, Post.seq_exit, Post.seq_normal, Post.seq_pan]; try simp [hel,hel2,hlt,hwc,hx32,Fr.keep]))
      repeat (first | (refine T_seqk fun K hK => ?_) | (refine T_reg tOK rfl ?_; simp) | (refine T_ret ?_; try simp) | (refine T_skip ?_; try simp) | (refine T_blockk fun K hK => ?_) | (with_reducible apply_assumption -exfalso -symm) | (rw [afterRF_ret]; simp) | (refine T_exit ?_; try simp) | (refine T_cond_t ?_ ?_; · (simp; done)) | (refine T_cond_f ?_ ?_; · (simp; done)) | (rintro _ _ (_ | _) hz9 <;> first | (simp; done) | (simp at hz9; done)) | (refine And.intro ?_ ?_) | (simp only [Post.block_ret, Post.block_exit, Post.block_normal, Post.block_pan, Post.seq_ret, Post.seq_exit, Post.seq_normal, Post.seq_pan]; try simp))
      refine T_loop ?_
      refine TL_keep [1, 5, 6, 7] ?_
      simp [Fr.keep]
      refine TL_ix (fun j => [(1, .lit (u8l l)), (5, .int .u32 (csN j (r ^^^ c.toNat) : Nat)), (6, i64 k), (7, i64 j)]) (fun k => []) 8 (fun _ => True) trivial (fun _ => ?_) (fun j hj _ ih2 => ?_)
      · refine TL_round ?_
        rw [h8]
        repeat (first | (refine T_seqk fun K hK => ?_) | (refine T_reg tOK rfl ?_; simp [Fr.keep]) | (refine T_ret ?_; try simp) | (refine T_skip ?_; try simp) | (refine T_blockk fun K hK => ?_) | (with_reducible apply_assumption -exfalso -symm) | (rw [afterRF_ret]; simp [Fr.keep]) | (refine T_exit ?_; try simp) | (refine T_cond_t ?_ ?_; · (simp; done)) | (refine T_cond_f ?_ ?_; · (simp; done)) | (rintro _ _ (_ | _) hz9 <;> first | (simp; done) | (simp at hz9; done)) | (refine And.intro ?_ ?_) | (simp only [Post.block_ret, Post.block_exit, Post.block_normal, Post.block_pan, Post.seq_ret, Post.seq_exit, Post.seq_normal, Post.seq_pan]; try simp [Fr.keep]))
      · refine TL_round ?_
        replace ih2 := PLift.up (ih2 trivial)
        have hx := csN_lt hr1 j
        have hj0 : decide ((j : Int) < 8) = true := by rw [decide_eq_true_eq]; omega
        have hwj : IntKind.i64.wrap ((j : Int) + 1) = ((j + 1 : Nat) : Int) := by rw [IntWalk.i64_in _ (by omega)]; omega
        have hcs : csN (j + 1) (r ^^^ c.toNat) = cs (csN j (r ^^^ c.toNat)) := rfl
        rw [hcs] at ih2
        generalize csN j (r ^^^ c.toNat) = x at *
        have hw1 : IntKind.u32.wrap ((x : Int) / 2) = (x : Int) / 2 := wraps_u32 _ (by omega) (by omega)
        refine T_seqkk [1, 5, 6, 7] [(1, .lit (u8l l)), (5, .int .u32 x), (6, i64 k), (7, i64 j)] [] (fun K hK => ?_) ?_
        · repeat (first | (refine T_seqk fun K hK => ?_) | (refine T_reg tOK rfl ?_; simp [hj0,Fr.keep]) | (refine T_ret ?_; try simp) | (refine T_skip ?_; try simp) | (refine T_blockk fun K hK => ?_) | (with_reducible apply_assumption -exfalso -symm) | (rw [afterRF_ret]; simp [hj0,Fr.keep]) | (refine T_exit ?_; try simp) | (refine T_cond_t ?_ ?_; · (simp; done)) | (refine T_cond_f ?_ ?_; · (simp; done)) | (rintro _ _ (_ | _) hz9 <;> first | (simp; done) | (simp at hz9; done)) | (refine And.intro ?_ ?_) | (simp only [Post.block_ret, Post.block_exit, Post.block_normal, Post.block_pan, Post.seq_ret, Post.seq_exit, Post.seq_normal, Post.seq_pan]; try simp [hj0,Fr.keep]))
        refine T_seqkk [1, 5, 6, 7] [(1, .lit (u8l l)), (5, .int .u32 (cs x : Nat)), (6, i64 k), (7, i64 j)] [] (fun K hK => ?_) ?_
        · refine T_blockk fun Q' hQ' => ?_
          by_cases hp : x % 2 = 1
          · have hc1 : cs x = x / 2 ^^^ 3988292384 := by unfold cs; rw [if_pos hp]
            have hxp : bits .xor .u32 ((x : Int) / 2) 3988292384 = (cs x : Nat) := by rw [hc1]; exact xor32 (a := x / 2) (b := 3988292384) (by omega) (by decide)
            have hpi : ((x : Int).tmod 2 == 1) = true := by rw [show (x : Int).tmod 2 = ((x % 2 : Nat) : Int) from rfl, hp]; rfl
            repeat (first | (refine T_seqk fun K hK => ?_) | (refine T_reg tOK rfl ?_; simp [hpi,shr32_1,hxp,hw1,Fr.keep]) | (refine T_ret ?_; try simp) | (refine T_skip ?_; try simp) | (refine T_blockk fun K hK => ?_) | (with_reducible apply_assumption -exfalso -symm) | (rw [afterRF_ret]; simp [hpi,shr32_1,hxp,hw1,Fr.keep]) | (refine T_exit ?_; try simp) | (refine T_cond_t ?_ ?_; · (simp; done)) | (refine T_cond_f ?_ ?_; · (simp; done)) | (rintro _ _ (_ | _) hz9 <;> first | (simp; done) | (simp at hz9; done)) | (refine And.intro ?_ ?_) | (simp only [Post.block_ret, Post.block_exit, Post.block_normal, Post.block_pan, Post.seq_ret, Post.seq_exit, Post.seq_normal, Post.seq_pan]; try simp [hpi,shr32_1,hxp,hw1,Fr.keep]))
            try (refine hQ' _ _ _ ?_; exact hK _ _ (by simp [Fr.keep]) (by simp))
          · have hc1 : cs x = x / 2 := by unfold cs; rw [if_neg hp, Nat.xor_zero]
            have hpi : ((x : Int).tmod 2 == 1) = false := by rw [show (x : Int).tmod 2 = ((x % 2 : Nat) : Int) from rfl, show x % 2 = 0 by omega]; rfl
            rw [hc1] at hK
            repeat (first | (refine T_seqk fun K hK => ?_) | (refine T_reg tOK rfl ?_; simp [hpi,shr32_1,hw1,Fr.keep]) | (refine T_ret ?_; try simp) | (refine T_skip ?_; try simp) | (refine T_blockk fun K hK => ?_) | (with_reducible apply_assumption -exfalso -symm) | (rw [afterRF_ret]; simp [hpi,shr32_1,hw1,Fr.keep]) | (refine T_exit ?_; try simp) | (refine T_cond_t ?_ ?_; · (simp; done)) | (refine T_cond_f ?_ ?_; · (simp; done)) | (rintro _ _ (_ | _) hz9 <;> first | (simp; done) | (simp at hz9; done)) | (refine And.intro ?_ ?_) | (simp only [Post.block_ret, Post.block_exit, Post.block_normal, Post.block_pan, Post.seq_ret, Post.seq_exit, Post.seq_normal, Post.seq_pan]; try simp [hpi,shr32_1,hw1,Fr.keep]))
            try (refine hQ' _ _ _ ?_; exact hK _ _ (by simp [Fr.keep]) (by simp))
        · refine T_reg tOK rfl ?_
          simp [hwj]
          refine TL_keep [1, 5, 6, 7] ?_
          simp [Fr.keep]
          exact ih2.down
    refine T_reg tOK rfl ?_
    simp [hwk]
    refine TL_keep [1, 5, 6] ?_
    simpa [Fr.keep, hfo] using ih.down
theorem C_rof {l : List UInt8} (hl : l.length < 1000000000) (h : R (.ret (.int .u32 (crc l : Nat))) σ) : C tE 36 [u8s l] σ R := by
  refine C_pure tOK (by simp [u8s, pureL_u8]) ?_
  refine C_bodyk tOK Try.func36 rfl (Nat.le_of_ble_eq_true rfl) fun K hK => ?_; simp
  repeat (first | (refine T_seqk fun K hK => ?_) | (refine T_reg tOK rfl ?_; simp) | (refine T_ret ?_; try simp) | (refine T_skip ?_; try simp) | (refine T_blockk fun K hK => ?_) | (with_reducible apply_assumption -exfalso -symm) | (rw [afterRF_ret]; simp) | (refine T_exit ?_; try simp) | (refine T_cond_t ?_ ?_; · (simp; done)) | (refine T_cond_f ?_ ?_; · (simp; done)) | (rintro _ _ (_ | _) hz9 <;> first | (simp; done) | (simp at hz9; done)) | (refine And.intro ?_ ?_) | (simp only [Post.block_ret, Post.block_exit, Post.block_normal, Post.block_pan, Post.seq_ret, Post.seq_exit, Post.seq_normal, Post.seq_pan]; try simp) | (refine T_loop (TL_round ?_)) | (refine TL_round ?_))
  refine C_rmore (s := 0) (by decide) hl ?_
  repeat (first | (refine T_seqk fun K hK => ?_) | (refine T_reg tOK rfl ?_; simp) | (refine T_ret ?_; try simp) | (refine T_skip ?_; try simp) | (refine T_blockk fun K hK => ?_) | (with_reducible apply_assumption -exfalso -symm) | (rw [afterRF_ret]; simp) | (refine T_exit ?_; try simp) | (refine T_cond_t ?_ ?_; · (simp; done)) | (refine T_cond_f ?_ ?_; · (simp; done)) | (rintro _ _ (_ | _) hz9 <;> first | (simp; done) | (simp at hz9; done)) | (refine And.intro ?_ ?_) | (simp only [Post.block_ret, Post.block_exit, Post.block_normal, Post.block_pan, Post.seq_ret, Post.seq_exit, Post.seq_normal, Post.seq_pan]; try simp) | (refine T_loop (TL_round ?_)) | (refine TL_round ?_))
end
end Go.Proofs.Ytdplbgfokoajjaa
end
section
/- The document's Right. -/
set_option linter.unusedVariables false
set_option linter.unusedSimpArgs false
set_option maxRecDepth 20000
namespace Go.Proofs.Ytdplbgfokoajjaa
open Go
attribute [local simp] RF_nil RF_cons afterRF_ret nilCmp sop sGuard isCall sCallee Fr.eval Fr.get Fr.put ofConst sLoad sStore sBuiltin Fr.args bodyQ sRes oneOf sBin sInt sUn
attribute [local simp] RD_nil RD_cons noConf clear accAdd Tab.pr Tab.slot foot wid idOf refId Op.operands Call.operands sFieldAddr sNilCheck sLookup keyLit sMapSet sMapDel sLen Store.at Store.new getP setP typeAt fits evalParts sBuildSlice sFill sList sApp sAppend frzRe frz pureB pureL
attribute [local simp] optEval sSlice sIndexAddr xop sClear
/-- Whether the first k numbers rise within bounds. -/
def pk (l : List Int) (k : Nat) : Bool := (l.take k).all inB && rises (l.take k)
theorem pk_zero {l : List Int} : pk l 0 = true := by simp [pk, rises]
theorem pk_full {l : List Int} : (decide (1 ≤ l.length) && decide (l.length ≤ 40) && pk l l.length) = okL l := by
  unfold pk okL
  rw [List.take_length]
  simp only [Bool.and_assoc]
  rfl
theorem pk_step {l : List Int} {k : Nat} (h : k < l.length) : pk l (k + 1) = (pk l k && (decide (0 ≤ l[k]) && (decide (l[k] ≤ 1073741824) && (k == 0 || decide (l[k - 1]! < l[k]))))) := by
  cases k with
  | zero =>
    cases l with
    | nil => simp at h
    | cons a l => simp [pk, rises, inB]
  | succ k =>
    have e : l[k + 1 - 1]! = l[k] := by simp [show k < l.length by omega]
    rw [e]
    unfold pk
    rw [List.take_add_one (i := k + 1), List.getElem?_eq_getElem h]
    simp only [Option.toList, List.all_append, List.all_cons, List.all_nil, Bool.and_true, rises_snoc]
    have h1 : (l.take (k + 1)).isEmpty = false := by cases l <;> simp at h ⊢
    have h2 : (l.take (k + 1)).getLastD 0 = l[k] := by
      rw [List.getLastD_eq_getLast?, List.getLast?_take]
      simp [show k < l.length by omega]
    rw [h1, h2]
    unfold inB
    simp only [Bool.false_or, show (k + 1 == 0) = false from rfl]
    generalize (l.take (k + 1)).all (fun n => decide (0 ≤ n) && decide (n ≤ 1073741824)) = c
    generalize decide (0 ≤ l[k + 1]) = d
    generalize decide (l[k + 1] ≤ 1073741824) = d'
    generalize rises (l.take (k + 1)) = e
    generalize decide (l[k] < l[k + 1]) = f
    revert c d d' e f
    decide
theorem pk_down {l : List Int} {k : Nat} : ∀ n, k + n ≤ l.length → pk l (k + n) = true → pk l k = true
  | 0, _, h => h
  | n + 1, hn, h => by
    rw [show k + (n + 1) = (k + n) + 1 by omega, pk_step (by omega), Bool.and_eq_true] at h
    exact pk_down n (by omega) h.1
theorem pk_bad {l : List Int} {k : Nat} (hk : k < l.length) (h : pk l (k + 1) = false) : okL l = false := by
  rw [← pk_full]
  cases hp : pk l l.length with
  | false => simp
  | true =>
    have := pk_down (l := l) (k := k + 1) (l.length - (k + 1)) (by omega) (by rw [show k + 1 + (l.length - (k + 1)) = l.length by omega]; exact hp)
    rw [this] at h; simp at h
section
variable {R : Re → Store → Prop} {σ : Store} {l : List Int}
set_option maxHeartbeats 4000000 in
theorem C_rright (hl : l.length < 1000000000) (h : R (.ret (.bool (okL l))) σ) : C tE 9 [.lit (is l)] σ R := by
  have hll := is_len l
  refine C_pure tOK (by simp [pureL_is]) ?_
  refine C_bodyk tOK Try.func9 rfl (Nat.le_of_ble_eq_true rfl) fun K hK => ?_; simp
  repeat (first | (refine T_seqk fun K hK => ?_) | (refine T_reg tOK rfl ?_; simp) | (refine T_ret ?_; try simp) | (refine T_skip ?_; try simp) | (refine T_blockk fun K hK => ?_) | (with_reducible apply_assumption -exfalso -symm) | (rw [afterRF_ret]; simp) | (refine T_exit ?_; try simp) | (refine T_cond_t ?_ ?_; · (simp; done)) | (refine T_cond_f ?_ ?_; · (simp; done)) | (rintro _ _ (_ | _) hz9 <;> first | (simp; done) | (simp at hz9; done)) | (refine And.intro ?_ ?_) | (simp only [Post.block_ret, Post.block_exit, Post.block_normal, Post.block_pan, Post.seq_ret, Post.seq_exit, Post.seq_normal, Post.seq_pan]; try simp) | (refine T_draw tOK tmix [([], 0), ([], 1), ([0, 1], 2), ([0, 1, 2], 3), ([0, 1, 2, 3], 4), ([0, 1, 2, 3, 4], 5), ([0, 1, 2, 3, 4, 5], 6), ([0, 1, 2, 3, 4, 5], 7), ([0, 1, 2, 3, 4, 5, 6, 7], 8), ([0, 1, 2, 3, 4, 5, 6, 7, 8], 9), ([0, 1, 2, 3, 4, 5, 6, 7, 8, 9], 10), ([0, 1, 2, 3, 4, 5, 6, 7, 8, 9, 10], 11), ([0, 1, 2, 3, 4, 5, 6, 7, 8, 9, 10, 11], 12), ([0, 1, 2, 3, 4, 5, 6, 7, 8, 9, 10, 11, 12], 13), ([0, 1, 2, 3, 4, 5, 6, 7, 8, 9, 10, 11, 12, 13], 14), ([0, 1, 2, 3, 4, 5, 6, 7, 8, 9, 10, 11, 12, 13, 14], 15), ([0, 1, 2, 3, 4, 5, 6, 7, 8, 9, 10, 11, 12, 13, 14, 15], 16), ([0, 1, 2, 3, 4, 5, 6, 7, 8, 9, 10, 11, 12, 13, 14, 15], 17), ([0, 1, 2, 3, 4, 5, 6, 7, 8, 9, 10, 11, 12, 13, 14, 15, 16, 17], 18), ([0, 1, 2, 3, 4, 5, 6, 7, 8, 9, 10, 11, 12, 13, 14, 15, 16, 17, 18], 19), ([0, 1, 2, 3, 4, 5, 6, 7, 8, 9, 10, 11, 12, 13, 14, 15], 20), ([0, 1, 2, 3, 4, 5, 6, 7, 8, 9, 10, 11, 12, 13, 14, 15], 21), ([0, 1, 2, 3, 4, 5, 6, 7, 8, 9, 10, 11, 12, 13, 14, 15, 21], 22), ([0, 1, 2, 3, 4, 5, 6, 7, 8, 9, 10, 11, 12, 13, 14, 15, 20, 21, 22], 23), ([0, 1, 2, 3, 4, 5, 6, 7, 8, 9, 10, 11, 12, 13, 14, 15, 20, 21, 22, 23], 24), ([0, 1, 2, 3, 4, 5, 6, 7, 8, 9, 10, 11, 12, 13, 14, 15, 16, 17, 18, 19, 20, 21, 22, 23, 24], 25), ([0, 1, 2, 3, 4, 5, 6, 7, 8, 9, 10, 11, 12, 13, 14, 15, 16, 17, 18, 19, 20, 21, 22, 23, 24, 25], 26), ([0, 1, 2, 3, 4, 5, 6, 7, 8, 9, 10, 11, 12, 13, 14, 15, 16, 17, 18, 19, 20, 21, 22, 23, 24, 25, 26], 27)] 25 (by decide +kernel) ?_; simp))
  refine T_loop ?_
  refine TL_keep [0, 3] ?_
  simp [Fr.keep]
  refine TL_ix (fun k => [(0, .lit (is l)), (3, i64 k)]) (fun _ => []) l.length (fun k => pk l k = true) pk_zero ?_ ?_
  · intro hp
    rw [← pk_full, hp, Bool.and_true] at h
    refine TL_round ?_
    have h1d : decide (1 ≤ (l.length : Int)) = decide (1 ≤ l.length) := by congr 1; simp; omega
    have h40 : decide ((l.length : Int) ≤ 40) = decide (l.length ≤ 40) := by congr 1; simp; omega
    cases h1 : decide (1 ≤ l.length) with
    | false =>
      rw [h1] at h1d h; rw [Bool.false_and] at h
      repeat (first | (refine T_seqk fun K hK => ?_) | (refine T_reg tOK rfl ?_; simp [hll,h1d]) | (refine T_ret ?_; try simp) | (refine T_skip ?_; try simp) | (refine T_blockk fun K hK => ?_) | (with_reducible apply_assumption -exfalso -symm) | (rw [afterRF_ret]; simp [hll,h1d]) | (refine T_exit ?_; try simp) | (refine T_cond_t ?_ ?_; · (simp; done)) | (refine T_cond_f ?_ ?_; · (simp; done)) | (rintro _ _ (_ | _) hz9 <;> first | (simp; done) | (simp at hz9; done)) | (refine And.intro ?_ ?_) | (simp only [Post.block_ret, Post.block_exit, Post.block_normal, Post.block_pan, Post.seq_ret, Post.seq_exit, Post.seq_normal, Post.seq_pan]; try simp [hll,h1d]) | (refine T_draw tOK tmix [([], 0), ([], 1), ([0, 1], 2), ([0, 1, 2], 3), ([0, 1, 2, 3], 4), ([0, 1, 2, 3, 4], 5), ([0, 1, 2, 3, 4, 5], 6), ([0, 1, 2, 3, 4, 5], 7), ([0, 1, 2, 3, 4, 5, 6, 7], 8), ([0, 1, 2, 3, 4, 5, 6, 7, 8], 9), ([0, 1, 2, 3, 4, 5, 6, 7, 8, 9], 10), ([0, 1, 2, 3, 4, 5, 6, 7, 8, 9, 10], 11), ([0, 1, 2, 3, 4, 5, 6, 7, 8, 9, 10, 11], 12), ([0, 1, 2, 3, 4, 5, 6, 7, 8, 9, 10, 11, 12], 13), ([0, 1, 2, 3, 4, 5, 6, 7, 8, 9, 10, 11, 12, 13], 14), ([0, 1, 2, 3, 4, 5, 6, 7, 8, 9, 10, 11, 12, 13, 14], 15), ([0, 1, 2, 3, 4, 5, 6, 7, 8, 9, 10, 11, 12, 13, 14, 15], 16), ([0, 1, 2, 3, 4, 5, 6, 7, 8, 9, 10, 11, 12, 13, 14, 15], 17), ([0, 1, 2, 3, 4, 5, 6, 7, 8, 9, 10, 11, 12, 13, 14, 15, 16, 17], 18), ([0, 1, 2, 3, 4, 5, 6, 7, 8, 9, 10, 11, 12, 13, 14, 15, 16, 17, 18], 19), ([0, 1, 2, 3, 4, 5, 6, 7, 8, 9, 10, 11, 12, 13, 14, 15], 20), ([0, 1, 2, 3, 4, 5, 6, 7, 8, 9, 10, 11, 12, 13, 14, 15], 21), ([0, 1, 2, 3, 4, 5, 6, 7, 8, 9, 10, 11, 12, 13, 14, 15, 21], 22), ([0, 1, 2, 3, 4, 5, 6, 7, 8, 9, 10, 11, 12, 13, 14, 15, 20, 21, 22], 23), ([0, 1, 2, 3, 4, 5, 6, 7, 8, 9, 10, 11, 12, 13, 14, 15, 20, 21, 22, 23], 24), ([0, 1, 2, 3, 4, 5, 6, 7, 8, 9, 10, 11, 12, 13, 14, 15, 16, 17, 18, 19, 20, 21, 22, 23, 24], 25), ([0, 1, 2, 3, 4, 5, 6, 7, 8, 9, 10, 11, 12, 13, 14, 15, 16, 17, 18, 19, 20, 21, 22, 23, 24, 25], 26), ([0, 1, 2, 3, 4, 5, 6, 7, 8, 9, 10, 11, 12, 13, 14, 15, 16, 17, 18, 19, 20, 21, 22, 23, 24, 25, 26], 27)] 25 (by decide +kernel) ?_; simp [hll,h1d]))
    | true =>
      rw [h1] at h1d h; rw [Bool.true_and] at h
      cases h2 : decide (l.length ≤ 40) with
      | false =>
        rw [h2] at h40 h
        repeat (first | (refine T_seqk fun K hK => ?_) | (refine T_reg tOK rfl ?_; simp [hll,h1d,h40]) | (refine T_ret ?_; try simp) | (refine T_skip ?_; try simp) | (refine T_blockk fun K hK => ?_) | (with_reducible apply_assumption -exfalso -symm) | (rw [afterRF_ret]; simp [hll,h1d,h40]) | (refine T_exit ?_; try simp) | (refine T_cond_t ?_ ?_; · (simp; done)) | (refine T_cond_f ?_ ?_; · (simp; done)) | (rintro _ _ (_ | _) hz9 <;> first | (simp; done) | (simp at hz9; done)) | (refine And.intro ?_ ?_) | (simp only [Post.block_ret, Post.block_exit, Post.block_normal, Post.block_pan, Post.seq_ret, Post.seq_exit, Post.seq_normal, Post.seq_pan]; try simp [hll,h1d,h40]) | (refine T_draw tOK tmix [([], 0), ([], 1), ([0, 1], 2), ([0, 1, 2], 3), ([0, 1, 2, 3], 4), ([0, 1, 2, 3, 4], 5), ([0, 1, 2, 3, 4, 5], 6), ([0, 1, 2, 3, 4, 5], 7), ([0, 1, 2, 3, 4, 5, 6, 7], 8), ([0, 1, 2, 3, 4, 5, 6, 7, 8], 9), ([0, 1, 2, 3, 4, 5, 6, 7, 8, 9], 10), ([0, 1, 2, 3, 4, 5, 6, 7, 8, 9, 10], 11), ([0, 1, 2, 3, 4, 5, 6, 7, 8, 9, 10, 11], 12), ([0, 1, 2, 3, 4, 5, 6, 7, 8, 9, 10, 11, 12], 13), ([0, 1, 2, 3, 4, 5, 6, 7, 8, 9, 10, 11, 12, 13], 14), ([0, 1, 2, 3, 4, 5, 6, 7, 8, 9, 10, 11, 12, 13, 14], 15), ([0, 1, 2, 3, 4, 5, 6, 7, 8, 9, 10, 11, 12, 13, 14, 15], 16), ([0, 1, 2, 3, 4, 5, 6, 7, 8, 9, 10, 11, 12, 13, 14, 15], 17), ([0, 1, 2, 3, 4, 5, 6, 7, 8, 9, 10, 11, 12, 13, 14, 15, 16, 17], 18), ([0, 1, 2, 3, 4, 5, 6, 7, 8, 9, 10, 11, 12, 13, 14, 15, 16, 17, 18], 19), ([0, 1, 2, 3, 4, 5, 6, 7, 8, 9, 10, 11, 12, 13, 14, 15], 20), ([0, 1, 2, 3, 4, 5, 6, 7, 8, 9, 10, 11, 12, 13, 14, 15], 21), ([0, 1, 2, 3, 4, 5, 6, 7, 8, 9, 10, 11, 12, 13, 14, 15, 21], 22), ([0, 1, 2, 3, 4, 5, 6, 7, 8, 9, 10, 11, 12, 13, 14, 15, 20, 21, 22], 23), ([0, 1, 2, 3, 4, 5, 6, 7, 8, 9, 10, 11, 12, 13, 14, 15, 20, 21, 22, 23], 24), ([0, 1, 2, 3, 4, 5, 6, 7, 8, 9, 10, 11, 12, 13, 14, 15, 16, 17, 18, 19, 20, 21, 22, 23, 24], 25), ([0, 1, 2, 3, 4, 5, 6, 7, 8, 9, 10, 11, 12, 13, 14, 15, 16, 17, 18, 19, 20, 21, 22, 23, 24, 25], 26), ([0, 1, 2, 3, 4, 5, 6, 7, 8, 9, 10, 11, 12, 13, 14, 15, 16, 17, 18, 19, 20, 21, 22, 23, 24, 25, 26], 27)] 25 (by decide +kernel) ?_; simp [hll,h1d,h40]))
      | true =>
        rw [h2] at h40 h
        repeat (first | (refine T_seqk fun K hK => ?_) | (refine T_reg tOK rfl ?_; simp [hll,h1d,h40]) | (refine T_ret ?_; try simp) | (refine T_skip ?_; try simp) | (refine T_blockk fun K hK => ?_) | (with_reducible apply_assumption -exfalso -symm) | (rw [afterRF_ret]; simp [hll,h1d,h40]) | (refine T_exit ?_; try simp) | (refine T_cond_t ?_ ?_; · (simp; done)) | (refine T_cond_f ?_ ?_; · (simp; done)) | (rintro _ _ (_ | _) hz9 <;> first | (simp; done) | (simp at hz9; done)) | (refine And.intro ?_ ?_) | (simp only [Post.block_ret, Post.block_exit, Post.block_normal, Post.block_pan, Post.seq_ret, Post.seq_exit, Post.seq_normal, Post.seq_pan]; try simp [hll,h1d,h40]) | (refine T_draw tOK tmix [([], 0), ([], 1), ([0, 1], 2), ([0, 1, 2], 3), ([0, 1, 2, 3], 4), ([0, 1, 2, 3, 4], 5), ([0, 1, 2, 3, 4, 5], 6), ([0, 1, 2, 3, 4, 5], 7), ([0, 1, 2, 3, 4, 5, 6, 7], 8), ([0, 1, 2, 3, 4, 5, 6, 7, 8], 9), ([0, 1, 2, 3, 4, 5, 6, 7, 8, 9], 10), ([0, 1, 2, 3, 4, 5, 6, 7, 8, 9, 10], 11), ([0, 1, 2, 3, 4, 5, 6, 7, 8, 9, 10, 11], 12), ([0, 1, 2, 3, 4, 5, 6, 7, 8, 9, 10, 11, 12], 13), ([0, 1, 2, 3, 4, 5, 6, 7, 8, 9, 10, 11, 12, 13], 14), ([0, 1, 2, 3, 4, 5, 6, 7, 8, 9, 10, 11, 12, 13, 14], 15), ([0, 1, 2, 3, 4, 5, 6, 7, 8, 9, 10, 11, 12, 13, 14, 15], 16), ([0, 1, 2, 3, 4, 5, 6, 7, 8, 9, 10, 11, 12, 13, 14, 15], 17), ([0, 1, 2, 3, 4, 5, 6, 7, 8, 9, 10, 11, 12, 13, 14, 15, 16, 17], 18), ([0, 1, 2, 3, 4, 5, 6, 7, 8, 9, 10, 11, 12, 13, 14, 15, 16, 17, 18], 19), ([0, 1, 2, 3, 4, 5, 6, 7, 8, 9, 10, 11, 12, 13, 14, 15], 20), ([0, 1, 2, 3, 4, 5, 6, 7, 8, 9, 10, 11, 12, 13, 14, 15], 21), ([0, 1, 2, 3, 4, 5, 6, 7, 8, 9, 10, 11, 12, 13, 14, 15, 21], 22), ([0, 1, 2, 3, 4, 5, 6, 7, 8, 9, 10, 11, 12, 13, 14, 15, 20, 21, 22], 23), ([0, 1, 2, 3, 4, 5, 6, 7, 8, 9, 10, 11, 12, 13, 14, 15, 20, 21, 22, 23], 24), ([0, 1, 2, 3, 4, 5, 6, 7, 8, 9, 10, 11, 12, 13, 14, 15, 16, 17, 18, 19, 20, 21, 22, 23, 24], 25), ([0, 1, 2, 3, 4, 5, 6, 7, 8, 9, 10, 11, 12, 13, 14, 15, 16, 17, 18, 19, 20, 21, 22, 23, 24, 25], 26), ([0, 1, 2, 3, 4, 5, 6, 7, 8, 9, 10, 11, 12, 13, 14, 15, 16, 17, 18, 19, 20, 21, 22, 23, 24, 25, 26], 27)] 25 (by decide +kernel) ?_; simp [hll,h1d,h40]))
  · intro k hk hp ih
    have hkb : decide (k < l.length) = true := by simpa using hk
    have hwk : IntKind.i64.wrap ((k : Int) + 1) = ((k + 1 : Nat) : Int) := by rw [IntWalk.i64_in _ (by omega)]; omega
    have ek := is_get hk
    have lk : k < (is l).length := by omega
    have ek' := get_of ek lk
    have hstep := pk_step hk
    rw [hp, Bool.true_and] at hstep
    refine TL_round ?_
    refine T_seqkk [0, 3] [(0, .lit (is l)), (3, i64 k)] [] (fun K hK => ?_) ?_
    · repeat (first | (refine T_seqk fun K hK => ?_) | (refine T_reg tOK rfl ?_; simp [hll,hkb,Fr.keep]) | (refine T_ret ?_; try simp) | (refine T_skip ?_; try simp) | (refine T_blockk fun K hK => ?_) | (with_reducible apply_assumption -exfalso -symm) | (rw [afterRF_ret]; simp [hll,hkb,Fr.keep]) | (refine T_exit ?_; try simp) | (refine T_cond_t ?_ ?_; · (simp; done)) | (refine T_cond_f ?_ ?_; · (simp; done)) | (rintro _ _ (_ | _) hz9 <;> first | (simp; done) | (simp at hz9; done)) | (refine And.intro ?_ ?_) | (simp only [Post.block_ret, Post.block_exit, Post.block_normal, Post.block_pan, Post.seq_ret, Post.seq_exit, Post.seq_normal, Post.seq_pan]; try simp [hll,hkb,Fr.keep]) | (refine T_draw tOK tmix [([], 0), ([], 1), ([0, 1], 2), ([0, 1, 2], 3), ([0, 1, 2, 3], 4), ([0, 1, 2, 3, 4], 5), ([0, 1, 2, 3, 4, 5], 6), ([0, 1, 2, 3, 4, 5], 7), ([0, 1, 2, 3, 4, 5, 6, 7], 8), ([0, 1, 2, 3, 4, 5, 6, 7, 8], 9), ([0, 1, 2, 3, 4, 5, 6, 7, 8, 9], 10), ([0, 1, 2, 3, 4, 5, 6, 7, 8, 9, 10], 11), ([0, 1, 2, 3, 4, 5, 6, 7, 8, 9, 10, 11], 12), ([0, 1, 2, 3, 4, 5, 6, 7, 8, 9, 10, 11, 12], 13), ([0, 1, 2, 3, 4, 5, 6, 7, 8, 9, 10, 11, 12, 13], 14), ([0, 1, 2, 3, 4, 5, 6, 7, 8, 9, 10, 11, 12, 13, 14], 15), ([0, 1, 2, 3, 4, 5, 6, 7, 8, 9, 10, 11, 12, 13, 14, 15], 16), ([0, 1, 2, 3, 4, 5, 6, 7, 8, 9, 10, 11, 12, 13, 14, 15], 17), ([0, 1, 2, 3, 4, 5, 6, 7, 8, 9, 10, 11, 12, 13, 14, 15, 16, 17], 18), ([0, 1, 2, 3, 4, 5, 6, 7, 8, 9, 10, 11, 12, 13, 14, 15, 16, 17, 18], 19), ([0, 1, 2, 3, 4, 5, 6, 7, 8, 9, 10, 11, 12, 13, 14, 15], 20), ([0, 1, 2, 3, 4, 5, 6, 7, 8, 9, 10, 11, 12, 13, 14, 15], 21), ([0, 1, 2, 3, 4, 5, 6, 7, 8, 9, 10, 11, 12, 13, 14, 15, 21], 22), ([0, 1, 2, 3, 4, 5, 6, 7, 8, 9, 10, 11, 12, 13, 14, 15, 20, 21, 22], 23), ([0, 1, 2, 3, 4, 5, 6, 7, 8, 9, 10, 11, 12, 13, 14, 15, 20, 21, 22, 23], 24), ([0, 1, 2, 3, 4, 5, 6, 7, 8, 9, 10, 11, 12, 13, 14, 15, 16, 17, 18, 19, 20, 21, 22, 23, 24], 25), ([0, 1, 2, 3, 4, 5, 6, 7, 8, 9, 10, 11, 12, 13, 14, 15, 16, 17, 18, 19, 20, 21, 22, 23, 24, 25], 26), ([0, 1, 2, 3, 4, 5, 6, 7, 8, 9, 10, 11, 12, 13, 14, 15, 16, 17, 18, 19, 20, 21, 22, 23, 24, 25, 26], 27)] 25 (by decide +kernel) ?_; simp [hll,hkb,Fr.keep]))
    have a1 : decide (l[k] < 0) = !decide (0 ≤ l[k]) := by rw [← decide_not]; congr 1; simp
    have a2 : decide (1073741824 < l[k]) = !decide (l[k] ≤ 1073741824) := by rw [← decide_not]; congr 1; simp
    cases hgood : pk l (k + 1) with
    | true =>
      replace ih := PLift.up (ih hgood)
      rw [hgood] at hstep
      have hstep := hstep.symm
      rw [Bool.and_eq_true, Bool.and_eq_true] at hstep
      obtain ⟨b1, b2, b3⟩ := hstep
      rw [b1] at a1
      rw [b2] at a2
      refine T_seqkf 0 [0, 3] [(0, .lit (is l)), (3, i64 k)] [] (by simp) (by simp [belowFr, belowB, belowL_of_pure 0 _ (pureL_is l)]) rfl (fun K hK => ?_) ?_
      · refine T_blockk fun Q' hQ' => ?_
        refine T_seqk fun K2 hK2 => ?_
        refine T_draw tOK tmix [([], 0), ([], 1), ([0, 1], 2), ([0, 1, 2], 3), ([0, 1, 2, 3], 4), ([0, 1, 2, 3, 4], 5), ([0, 1, 2, 3, 4, 5], 6), ([0, 1, 2, 3, 4, 5], 7), ([0, 1, 2, 3, 4, 5, 6, 7], 8), ([0, 1, 2, 3, 4, 5, 6, 7, 8], 9), ([0, 1, 2, 3, 4, 5, 6, 7, 8, 9], 10), ([0, 1, 2, 3, 4, 5, 6, 7, 8, 9, 10], 11), ([0, 1, 2, 3, 4, 5, 6, 7, 8, 9, 10, 11], 12), ([0, 1, 2, 3, 4, 5, 6, 7, 8, 9, 10, 11, 12], 13), ([0, 1, 2, 3, 4, 5, 6, 7, 8, 9, 10, 11, 12, 13], 14), ([0, 1, 2, 3, 4, 5, 6, 7, 8, 9, 10, 11, 12, 13, 14], 15), ([0, 1, 2, 3, 4, 5, 6, 7, 8, 9, 10, 11, 12, 13, 14, 15], 16), ([0, 1, 2, 3, 4, 5, 6, 7, 8, 9, 10, 11, 12, 13, 14, 15], 17), ([0, 1, 2, 3, 4, 5, 6, 7, 8, 9, 10, 11, 12, 13, 14, 15, 16, 17], 18), ([0, 1, 2, 3, 4, 5, 6, 7, 8, 9, 10, 11, 12, 13, 14, 15, 16, 17, 18], 19), ([0, 1, 2, 3, 4, 5, 6, 7, 8, 9, 10, 11, 12, 13, 14, 15], 20), ([0, 1, 2, 3, 4, 5, 6, 7, 8, 9, 10, 11, 12, 13, 14, 15], 21), ([0, 1, 2, 3, 4, 5, 6, 7, 8, 9, 10, 11, 12, 13, 14, 15, 21], 22), ([0, 1, 2, 3, 4, 5, 6, 7, 8, 9, 10, 11, 12, 13, 14, 15, 20, 21, 22], 23), ([0, 1, 2, 3, 4, 5, 6, 7, 8, 9, 10, 11, 12, 13, 14, 15, 20, 21, 22, 23], 24), ([0, 1, 2, 3, 4, 5, 6, 7, 8, 9, 10, 11, 12, 13, 14, 15, 16, 17, 18, 19, 20, 21, 22, 23, 24], 25), ([0, 1, 2, 3, 4, 5, 6, 7, 8, 9, 10, 11, 12, 13, 14, 15, 16, 17, 18, 19, 20, 21, 22, 23, 24, 25], 26), ([0, 1, 2, 3, 4, 5, 6, 7, 8, 9, 10, 11, 12, 13, 14, 15, 16, 17, 18, 19, 20, 21, 22, 23, 24, 25, 26], 27)] 25 (by decide +kernel) ?_
        cases k with
        | zero =>
          try simp [-RF_cons, -RD_cons, ek,ek',lk,a1,a2]
          repeat (rw [RD_cons]; simp [-RF_cons, -RD_cons, ek,ek',lk,a1,a2])
          repeat (rw [RF_cons]; simp [-RF_cons, -RD_cons, ek,ek',lk,a1,a2])
          refine hK2 _ _ ?_
          repeat (first | (refine T_seqk fun K hK => ?_) | (refine T_reg tOK rfl ?_; simp) | (refine T_ret ?_; try simp) | (refine T_skip ?_; try simp) | (refine T_blockk fun K hK => ?_) | (with_reducible apply_assumption -exfalso -symm) | (rw [afterRF_ret]; simp) | (refine T_exit ?_; try simp) | (refine T_cond_t ?_ ?_; · (simp; done)) | (refine T_cond_f ?_ ?_; · (simp; done)) | (rintro _ _ (_ | _) hz9 <;> first | (simp; done) | (simp at hz9; done)) | (refine And.intro ?_ ?_) | (simp only [Post.block_ret, Post.block_exit, Post.block_normal, Post.block_pan, Post.seq_ret, Post.seq_exit, Post.seq_normal, Post.seq_pan]; try simp) | (refine T_draw tOK tmix [([], 0), ([], 1), ([0, 1], 2), ([0, 1, 2], 3), ([0, 1, 2, 3], 4), ([0, 1, 2, 3, 4], 5), ([0, 1, 2, 3, 4, 5], 6), ([0, 1, 2, 3, 4, 5], 7), ([0, 1, 2, 3, 4, 5, 6, 7], 8), ([0, 1, 2, 3, 4, 5, 6, 7, 8], 9), ([0, 1, 2, 3, 4, 5, 6, 7, 8, 9], 10), ([0, 1, 2, 3, 4, 5, 6, 7, 8, 9, 10], 11), ([0, 1, 2, 3, 4, 5, 6, 7, 8, 9, 10, 11], 12), ([0, 1, 2, 3, 4, 5, 6, 7, 8, 9, 10, 11, 12], 13), ([0, 1, 2, 3, 4, 5, 6, 7, 8, 9, 10, 11, 12, 13], 14), ([0, 1, 2, 3, 4, 5, 6, 7, 8, 9, 10, 11, 12, 13, 14], 15), ([0, 1, 2, 3, 4, 5, 6, 7, 8, 9, 10, 11, 12, 13, 14, 15], 16), ([0, 1, 2, 3, 4, 5, 6, 7, 8, 9, 10, 11, 12, 13, 14, 15], 17), ([0, 1, 2, 3, 4, 5, 6, 7, 8, 9, 10, 11, 12, 13, 14, 15, 16, 17], 18), ([0, 1, 2, 3, 4, 5, 6, 7, 8, 9, 10, 11, 12, 13, 14, 15, 16, 17, 18], 19), ([0, 1, 2, 3, 4, 5, 6, 7, 8, 9, 10, 11, 12, 13, 14, 15], 20), ([0, 1, 2, 3, 4, 5, 6, 7, 8, 9, 10, 11, 12, 13, 14, 15], 21), ([0, 1, 2, 3, 4, 5, 6, 7, 8, 9, 10, 11, 12, 13, 14, 15, 21], 22), ([0, 1, 2, 3, 4, 5, 6, 7, 8, 9, 10, 11, 12, 13, 14, 15, 20, 21, 22], 23), ([0, 1, 2, 3, 4, 5, 6, 7, 8, 9, 10, 11, 12, 13, 14, 15, 20, 21, 22, 23], 24), ([0, 1, 2, 3, 4, 5, 6, 7, 8, 9, 10, 11, 12, 13, 14, 15, 16, 17, 18, 19, 20, 21, 22, 23, 24], 25), ([0, 1, 2, 3, 4, 5, 6, 7, 8, 9, 10, 11, 12, 13, 14, 15, 16, 17, 18, 19, 20, 21, 22, 23, 24, 25], 26), ([0, 1, 2, 3, 4, 5, 6, 7, 8, 9, 10, 11, 12, 13, 14, 15, 16, 17, 18, 19, 20, 21, 22, 23, 24, 25, 26], 27)] 25 (by decide +kernel) ?_; simp))
          try (refine hQ' _ _ _ ?_; exact hK _ _ (by simp [Fr.keep]) (by simp))
        | succ k =>
          have hk' : k < l.length := by omega
          have fk := is_get hk'
          have mk : k < (is l).length := by omega
          have fk' := get_of fk mk
          have hwk' : IntKind.i64.wrap (k : Int) = (k : Int) := IntWalk.i64_in _ (by omega)
          have p1 : (0 : Int) ≤ (k : Int) + 1 := by omega
          have p2 : ((k : Int) + 1).toNat = k + 1 := by omega
          have p3 : decide ((0 : Int) < (k : Int) + 1) = true := decide_eq_true (by omega)
          rw [show (k + 1 == 0) = false from rfl, Bool.false_or, show l[k + 1 - 1]! = l[k] by simp [hk']] at b3
          have a3 : decide (l[k + 1] ≤ l[k]) = false := by simp at b3 ⊢; omega
          try simp [-RF_cons, -RD_cons, ek,ek',lk,a1,a2,a3,fk,fk',mk,hwk',p1,p2,p3]
          repeat (rw [RD_cons]; simp [-RF_cons, -RD_cons, ek,ek',lk,a1,a2,a3,fk,fk',mk,hwk',p1,p2,p3])
          repeat (rw [RF_cons]; simp [-RF_cons, -RD_cons, ek,ek',lk,a1,a2,a3,fk,fk',mk,hwk',p1,p2,p3])
          refine hK2 _ _ ?_
          repeat (first | (refine T_seqk fun K hK => ?_) | (refine T_reg tOK rfl ?_; simp) | (refine T_ret ?_; try simp) | (refine T_skip ?_; try simp) | (refine T_blockk fun K hK => ?_) | (with_reducible apply_assumption -exfalso -symm) | (rw [afterRF_ret]; simp) | (refine T_exit ?_; try simp) | (refine T_cond_t ?_ ?_; · (simp; done)) | (refine T_cond_f ?_ ?_; · (simp; done)) | (rintro _ _ (_ | _) hz9 <;> first | (simp; done) | (simp at hz9; done)) | (refine And.intro ?_ ?_) | (simp only [Post.block_ret, Post.block_exit, Post.block_normal, Post.block_pan, Post.seq_ret, Post.seq_exit, Post.seq_normal, Post.seq_pan]; try simp) | (refine T_draw tOK tmix [([], 0), ([], 1), ([0, 1], 2), ([0, 1, 2], 3), ([0, 1, 2, 3], 4), ([0, 1, 2, 3, 4], 5), ([0, 1, 2, 3, 4, 5], 6), ([0, 1, 2, 3, 4, 5], 7), ([0, 1, 2, 3, 4, 5, 6, 7], 8), ([0, 1, 2, 3, 4, 5, 6, 7, 8], 9), ([0, 1, 2, 3, 4, 5, 6, 7, 8, 9], 10), ([0, 1, 2, 3, 4, 5, 6, 7, 8, 9, 10], 11), ([0, 1, 2, 3, 4, 5, 6, 7, 8, 9, 10, 11], 12), ([0, 1, 2, 3, 4, 5, 6, 7, 8, 9, 10, 11, 12], 13), ([0, 1, 2, 3, 4, 5, 6, 7, 8, 9, 10, 11, 12, 13], 14), ([0, 1, 2, 3, 4, 5, 6, 7, 8, 9, 10, 11, 12, 13, 14], 15), ([0, 1, 2, 3, 4, 5, 6, 7, 8, 9, 10, 11, 12, 13, 14, 15], 16), ([0, 1, 2, 3, 4, 5, 6, 7, 8, 9, 10, 11, 12, 13, 14, 15], 17), ([0, 1, 2, 3, 4, 5, 6, 7, 8, 9, 10, 11, 12, 13, 14, 15, 16, 17], 18), ([0, 1, 2, 3, 4, 5, 6, 7, 8, 9, 10, 11, 12, 13, 14, 15, 16, 17, 18], 19), ([0, 1, 2, 3, 4, 5, 6, 7, 8, 9, 10, 11, 12, 13, 14, 15], 20), ([0, 1, 2, 3, 4, 5, 6, 7, 8, 9, 10, 11, 12, 13, 14, 15], 21), ([0, 1, 2, 3, 4, 5, 6, 7, 8, 9, 10, 11, 12, 13, 14, 15, 21], 22), ([0, 1, 2, 3, 4, 5, 6, 7, 8, 9, 10, 11, 12, 13, 14, 15, 20, 21, 22], 23), ([0, 1, 2, 3, 4, 5, 6, 7, 8, 9, 10, 11, 12, 13, 14, 15, 20, 21, 22, 23], 24), ([0, 1, 2, 3, 4, 5, 6, 7, 8, 9, 10, 11, 12, 13, 14, 15, 16, 17, 18, 19, 20, 21, 22, 23, 24], 25), ([0, 1, 2, 3, 4, 5, 6, 7, 8, 9, 10, 11, 12, 13, 14, 15, 16, 17, 18, 19, 20, 21, 22, 23, 24, 25], 26), ([0, 1, 2, 3, 4, 5, 6, 7, 8, 9, 10, 11, 12, 13, 14, 15, 16, 17, 18, 19, 20, 21, 22, 23, 24, 25, 26], 27)] 25 (by decide +kernel) ?_; simp))
          try (refine hQ' _ _ _ ?_; exact hK _ _ (by simp [Fr.keep]) (by simp))
      · refine T_reg tOK rfl ?_
        simp [hwk]
        refine TL_keep [0, 3] ?_
        simp [Fr.keep]
        exact ih.down
    | false =>
      rw [pk_bad hk hgood] at h
      rw [hgood] at hstep
      clear ih
      refine T_seqk fun K1 hK1 => ?_
      refine T_blockk fun Q' hQ' => ?_
      refine T_seqk fun K2 hK2 => ?_
      refine T_draw tOK tmix [([], 0), ([], 1), ([0, 1], 2), ([0, 1, 2], 3), ([0, 1, 2, 3], 4), ([0, 1, 2, 3, 4], 5), ([0, 1, 2, 3, 4, 5], 6), ([0, 1, 2, 3, 4, 5], 7), ([0, 1, 2, 3, 4, 5, 6, 7], 8), ([0, 1, 2, 3, 4, 5, 6, 7, 8], 9), ([0, 1, 2, 3, 4, 5, 6, 7, 8, 9], 10), ([0, 1, 2, 3, 4, 5, 6, 7, 8, 9, 10], 11), ([0, 1, 2, 3, 4, 5, 6, 7, 8, 9, 10, 11], 12), ([0, 1, 2, 3, 4, 5, 6, 7, 8, 9, 10, 11, 12], 13), ([0, 1, 2, 3, 4, 5, 6, 7, 8, 9, 10, 11, 12, 13], 14), ([0, 1, 2, 3, 4, 5, 6, 7, 8, 9, 10, 11, 12, 13, 14], 15), ([0, 1, 2, 3, 4, 5, 6, 7, 8, 9, 10, 11, 12, 13, 14, 15], 16), ([0, 1, 2, 3, 4, 5, 6, 7, 8, 9, 10, 11, 12, 13, 14, 15], 17), ([0, 1, 2, 3, 4, 5, 6, 7, 8, 9, 10, 11, 12, 13, 14, 15, 16, 17], 18), ([0, 1, 2, 3, 4, 5, 6, 7, 8, 9, 10, 11, 12, 13, 14, 15, 16, 17, 18], 19), ([0, 1, 2, 3, 4, 5, 6, 7, 8, 9, 10, 11, 12, 13, 14, 15], 20), ([0, 1, 2, 3, 4, 5, 6, 7, 8, 9, 10, 11, 12, 13, 14, 15], 21), ([0, 1, 2, 3, 4, 5, 6, 7, 8, 9, 10, 11, 12, 13, 14, 15, 21], 22), ([0, 1, 2, 3, 4, 5, 6, 7, 8, 9, 10, 11, 12, 13, 14, 15, 20, 21, 22], 23), ([0, 1, 2, 3, 4, 5, 6, 7, 8, 9, 10, 11, 12, 13, 14, 15, 20, 21, 22, 23], 24), ([0, 1, 2, 3, 4, 5, 6, 7, 8, 9, 10, 11, 12, 13, 14, 15, 16, 17, 18, 19, 20, 21, 22, 23, 24], 25), ([0, 1, 2, 3, 4, 5, 6, 7, 8, 9, 10, 11, 12, 13, 14, 15, 16, 17, 18, 19, 20, 21, 22, 23, 24, 25], 26), ([0, 1, 2, 3, 4, 5, 6, 7, 8, 9, 10, 11, 12, 13, 14, 15, 16, 17, 18, 19, 20, 21, 22, 23, 24, 25, 26], 27)] 25 (by decide +kernel) ?_
      cases b1 : decide (0 ≤ l[k]) with
      | false =>
        rw [b1] at a1
        try simp [-RF_cons, -RD_cons, ek,ek',lk,a1,a2]
        repeat (rw [RD_cons]; simp [-RF_cons, -RD_cons, ek,ek',lk,a1,a2])
        repeat (rw [RF_cons]; simp [-RF_cons, -RD_cons, ek,ek',lk,a1,a2])
        refine hK2 _ _ ?_
        repeat (first | (refine T_seqk fun K hK => ?_) | (refine T_reg tOK rfl ?_; simp) | (refine T_ret ?_; try simp) | (refine T_skip ?_; try simp) | (refine T_blockk fun K hK => ?_) | (with_reducible apply_assumption -exfalso -symm) | (rw [afterRF_ret]; simp) | (refine T_exit ?_; try simp) | (refine T_cond_t ?_ ?_; · (simp; done)) | (refine T_cond_f ?_ ?_; · (simp; done)) | (rintro _ _ (_ | _) hz9 <;> first | (simp; done) | (simp at hz9; done)) | (refine And.intro ?_ ?_) | (simp only [Post.block_ret, Post.block_exit, Post.block_normal, Post.block_pan, Post.seq_ret, Post.seq_exit, Post.seq_normal, Post.seq_pan]; try simp) | (refine T_draw tOK tmix [([], 0), ([], 1), ([0, 1], 2), ([0, 1, 2], 3), ([0, 1, 2, 3], 4), ([0, 1, 2, 3, 4], 5), ([0, 1, 2, 3, 4, 5], 6), ([0, 1, 2, 3, 4, 5], 7), ([0, 1, 2, 3, 4, 5, 6, 7], 8), ([0, 1, 2, 3, 4, 5, 6, 7, 8], 9), ([0, 1, 2, 3, 4, 5, 6, 7, 8, 9], 10), ([0, 1, 2, 3, 4, 5, 6, 7, 8, 9, 10], 11), ([0, 1, 2, 3, 4, 5, 6, 7, 8, 9, 10, 11], 12), ([0, 1, 2, 3, 4, 5, 6, 7, 8, 9, 10, 11, 12], 13), ([0, 1, 2, 3, 4, 5, 6, 7, 8, 9, 10, 11, 12, 13], 14), ([0, 1, 2, 3, 4, 5, 6, 7, 8, 9, 10, 11, 12, 13, 14], 15), ([0, 1, 2, 3, 4, 5, 6, 7, 8, 9, 10, 11, 12, 13, 14, 15], 16), ([0, 1, 2, 3, 4, 5, 6, 7, 8, 9, 10, 11, 12, 13, 14, 15], 17), ([0, 1, 2, 3, 4, 5, 6, 7, 8, 9, 10, 11, 12, 13, 14, 15, 16, 17], 18), ([0, 1, 2, 3, 4, 5, 6, 7, 8, 9, 10, 11, 12, 13, 14, 15, 16, 17, 18], 19), ([0, 1, 2, 3, 4, 5, 6, 7, 8, 9, 10, 11, 12, 13, 14, 15], 20), ([0, 1, 2, 3, 4, 5, 6, 7, 8, 9, 10, 11, 12, 13, 14, 15], 21), ([0, 1, 2, 3, 4, 5, 6, 7, 8, 9, 10, 11, 12, 13, 14, 15, 21], 22), ([0, 1, 2, 3, 4, 5, 6, 7, 8, 9, 10, 11, 12, 13, 14, 15, 20, 21, 22], 23), ([0, 1, 2, 3, 4, 5, 6, 7, 8, 9, 10, 11, 12, 13, 14, 15, 20, 21, 22, 23], 24), ([0, 1, 2, 3, 4, 5, 6, 7, 8, 9, 10, 11, 12, 13, 14, 15, 16, 17, 18, 19, 20, 21, 22, 23, 24], 25), ([0, 1, 2, 3, 4, 5, 6, 7, 8, 9, 10, 11, 12, 13, 14, 15, 16, 17, 18, 19, 20, 21, 22, 23, 24, 25], 26), ([0, 1, 2, 3, 4, 5, 6, 7, 8, 9, 10, 11, 12, 13, 14, 15, 16, 17, 18, 19, 20, 21, 22, 23, 24, 25, 26], 27)] 25 (by decide +kernel) ?_; simp))
      | true =>
        rw [b1] at a1 hstep
        rw [Bool.true_and] at hstep
        cases b2 : decide (l[k] ≤ 1073741824) with
        | false =>
          rw [b2] at a2
          try simp [-RF_cons, -RD_cons, ek,ek',lk,a1,a2]
          repeat (rw [RD_cons]; simp [-RF_cons, -RD_cons, ek,ek',lk,a1,a2])
          repeat (rw [RF_cons]; simp [-RF_cons, -RD_cons, ek,ek',lk,a1,a2])
          refine hK2 _ _ ?_
          repeat (first | (refine T_seqk fun K hK => ?_) | (refine T_reg tOK rfl ?_; simp) | (refine T_ret ?_; try simp) | (refine T_skip ?_; try simp) | (refine T_blockk fun K hK => ?_) | (with_reducible apply_assumption -exfalso -symm) | (rw [afterRF_ret]; simp) | (refine T_exit ?_; try simp) | (refine T_cond_t ?_ ?_; · (simp; done)) | (refine T_cond_f ?_ ?_; · (simp; done)) | (rintro _ _ (_ | _) hz9 <;> first | (simp; done) | (simp at hz9; done)) | (refine And.intro ?_ ?_) | (simp only [Post.block_ret, Post.block_exit, Post.block_normal, Post.block_pan, Post.seq_ret, Post.seq_exit, Post.seq_normal, Post.seq_pan]; try simp) | (refine T_draw tOK tmix [([], 0), ([], 1), ([0, 1], 2), ([0, 1, 2], 3), ([0, 1, 2, 3], 4), ([0, 1, 2, 3, 4], 5), ([0, 1, 2, 3, 4, 5], 6), ([0, 1, 2, 3, 4, 5], 7), ([0, 1, 2, 3, 4, 5, 6, 7], 8), ([0, 1, 2, 3, 4, 5, 6, 7, 8], 9), ([0, 1, 2, 3, 4, 5, 6, 7, 8, 9], 10), ([0, 1, 2, 3, 4, 5, 6, 7, 8, 9, 10], 11), ([0, 1, 2, 3, 4, 5, 6, 7, 8, 9, 10, 11], 12), ([0, 1, 2, 3, 4, 5, 6, 7, 8, 9, 10, 11, 12], 13), ([0, 1, 2, 3, 4, 5, 6, 7, 8, 9, 10, 11, 12, 13], 14), ([0, 1, 2, 3, 4, 5, 6, 7, 8, 9, 10, 11, 12, 13, 14], 15), ([0, 1, 2, 3, 4, 5, 6, 7, 8, 9, 10, 11, 12, 13, 14, 15], 16), ([0, 1, 2, 3, 4, 5, 6, 7, 8, 9, 10, 11, 12, 13, 14, 15], 17), ([0, 1, 2, 3, 4, 5, 6, 7, 8, 9, 10, 11, 12, 13, 14, 15, 16, 17], 18), ([0, 1, 2, 3, 4, 5, 6, 7, 8, 9, 10, 11, 12, 13, 14, 15, 16, 17, 18], 19), ([0, 1, 2, 3, 4, 5, 6, 7, 8, 9, 10, 11, 12, 13, 14, 15], 20), ([0, 1, 2, 3, 4, 5, 6, 7, 8, 9, 10, 11, 12, 13, 14, 15], 21), ([0, 1, 2, 3, 4, 5, 6, 7, 8, 9, 10, 11, 12, 13, 14, 15, 21], 22), ([0, 1, 2, 3, 4, 5, 6, 7, 8, 9, 10, 11, 12, 13, 14, 15, 20, 21, 22], 23), ([0, 1, 2, 3, 4, 5, 6, 7, 8, 9, 10, 11, 12, 13, 14, 15, 20, 21, 22, 23], 24), ([0, 1, 2, 3, 4, 5, 6, 7, 8, 9, 10, 11, 12, 13, 14, 15, 16, 17, 18, 19, 20, 21, 22, 23, 24], 25), ([0, 1, 2, 3, 4, 5, 6, 7, 8, 9, 10, 11, 12, 13, 14, 15, 16, 17, 18, 19, 20, 21, 22, 23, 24, 25], 26), ([0, 1, 2, 3, 4, 5, 6, 7, 8, 9, 10, 11, 12, 13, 14, 15, 16, 17, 18, 19, 20, 21, 22, 23, 24, 25, 26], 27)] 25 (by decide +kernel) ?_; simp))
        | true =>
          rw [b2] at a2 hstep
          rw [Bool.true_and] at hstep
          cases k with
          | zero => simp at hstep
          | succ k =>
            have hk' : k < l.length := by omega
            have fk := is_get hk'
            have mk : k < (is l).length := by omega
            have fk' := get_of fk mk
            have hwk' : IntKind.i64.wrap (k : Int) = (k : Int) := IntWalk.i64_in _ (by omega)
            have p1 : (0 : Int) ≤ (k : Int) + 1 := by omega
            have p2 : ((k : Int) + 1).toNat = k + 1 := by omega
            have p3 : decide ((0 : Int) < (k : Int) + 1) = true := decide_eq_true (by omega)
            rw [show (k + 1 == 0) = false from rfl, Bool.false_or, show l[k + 1 - 1]! = l[k] by simp [hk']] at hstep
            have a3 : decide (l[k + 1] ≤ l[k]) = true := by
              have := hstep.symm
              simp at this ⊢; omega
            try simp [-RF_cons, -RD_cons, ek,ek',lk,a1,a2,a3,fk,fk',mk,hwk',p1,p2,p3]
            repeat (rw [RD_cons]; simp [-RF_cons, -RD_cons, ek,ek',lk,a1,a2,a3,fk,fk',mk,hwk',p1,p2,p3])
            repeat (rw [RF_cons]; simp [-RF_cons, -RD_cons, ek,ek',lk,a1,a2,a3,fk,fk',mk,hwk',p1,p2,p3])
            refine hK2 _ _ ?_
            repeat (first | (refine T_seqk fun K hK => ?_) | (refine T_reg tOK rfl ?_; simp) | (refine T_ret ?_; try simp) | (refine T_skip ?_; try simp) | (refine T_blockk fun K hK => ?_) | (with_reducible apply_assumption -exfalso -symm) | (rw [afterRF_ret]; simp) | (refine T_exit ?_; try simp) | (refine T_cond_t ?_ ?_; · (simp; done)) | (refine T_cond_f ?_ ?_; · (simp; done)) | (rintro _ _ (_ | _) hz9 <;> first | (simp; done) | (simp at hz9; done)) | (refine And.intro ?_ ?_) | (simp only [Post.block_ret, Post.block_exit, Post.block_normal, Post.block_pan, Post.seq_ret, Post.seq_exit, Post.seq_normal, Post.seq_pan]; try simp) | (refine T_draw tOK tmix [([], 0), ([], 1), ([0, 1], 2), ([0, 1, 2], 3), ([0, 1, 2, 3], 4), ([0, 1, 2, 3, 4], 5), ([0, 1, 2, 3, 4, 5], 6), ([0, 1, 2, 3, 4, 5], 7), ([0, 1, 2, 3, 4, 5, 6, 7], 8), ([0, 1, 2, 3, 4, 5, 6, 7, 8], 9), ([0, 1, 2, 3, 4, 5, 6, 7, 8, 9], 10), ([0, 1, 2, 3, 4, 5, 6, 7, 8, 9, 10], 11), ([0, 1, 2, 3, 4, 5, 6, 7, 8, 9, 10, 11], 12), ([0, 1, 2, 3, 4, 5, 6, 7, 8, 9, 10, 11, 12], 13), ([0, 1, 2, 3, 4, 5, 6, 7, 8, 9, 10, 11, 12, 13], 14), ([0, 1, 2, 3, 4, 5, 6, 7, 8, 9, 10, 11, 12, 13, 14], 15), ([0, 1, 2, 3, 4, 5, 6, 7, 8, 9, 10, 11, 12, 13, 14, 15], 16), ([0, 1, 2, 3, 4, 5, 6, 7, 8, 9, 10, 11, 12, 13, 14, 15], 17), ([0, 1, 2, 3, 4, 5, 6, 7, 8, 9, 10, 11, 12, 13, 14, 15, 16, 17], 18), ([0, 1, 2, 3, 4, 5, 6, 7, 8, 9, 10, 11, 12, 13, 14, 15, 16, 17, 18], 19), ([0, 1, 2, 3, 4, 5, 6, 7, 8, 9, 10, 11, 12, 13, 14, 15], 20), ([0, 1, 2, 3, 4, 5, 6, 7, 8, 9, 10, 11, 12, 13, 14, 15], 21), ([0, 1, 2, 3, 4, 5, 6, 7, 8, 9, 10, 11, 12, 13, 14, 15, 21], 22), ([0, 1, 2, 3, 4, 5, 6, 7, 8, 9, 10, 11, 12, 13, 14, 15, 20, 21, 22], 23), ([0, 1, 2, 3, 4, 5, 6, 7, 8, 9, 10, 11, 12, 13, 14, 15, 20, 21, 22, 23], 24), ([0, 1, 2, 3, 4, 5, 6, 7, 8, 9, 10, 11, 12, 13, 14, 15, 16, 17, 18, 19, 20, 21, 22, 23, 24], 25), ([0, 1, 2, 3, 4, 5, 6, 7, 8, 9, 10, 11, 12, 13, 14, 15, 16, 17, 18, 19, 20, 21, 22, 23, 24, 25], 26), ([0, 1, 2, 3, 4, 5, 6, 7, 8, 9, 10, 11, 12, 13, 14, 15, 16, 17, 18, 19, 20, 21, 22, 23, 24, 25, 26], 27)] 25 (by decide +kernel) ?_; simp))
end
end Go.Proofs.Ytdplbgfokoajjaa
end
section
/- The document's numbers. -/
set_option linter.unusedVariables false
set_option linter.unusedSimpArgs false
set_option maxRecDepth 20000
namespace Go.Proofs.Ytdplbgfokoajjaa
open Go
attribute [local simp] RF_nil RF_cons afterRF_ret nilCmp sop sGuard isCall sCallee Fr.eval Fr.get Fr.put ofConst sLoad sStore sBuiltin Fr.args bodyQ sRes oneOf sBin sInt sUn
attribute [local simp] RD_nil RD_cons noConf clear accAdd Tab.pr Tab.slot foot wid idOf refId Op.operands Call.operands sFieldAddr sNilCheck sLookup keyLit sMapSet sMapDel sLen Store.at Store.new getP setP typeAt fits evalParts sBuildSlice sFill sList sApp sAppend frzRe frz pureB pureL
attribute [local simp] optEval sSlice sIndexAddr xop sClear
section
variable {R : Re → Store → Prop} {σ : Store}
theorem tm256 (m : Nat) : (m : Int).tmod 256 = ((m % 256 : Nat) : Int) := rfl
theorem td256 (m : Nat) : (m : Int).tdiv 256 = ((m / 256 : Nat) : Int) := rfl
set_option maxHeartbeats 2000000 in
theorem C_number4 {n : Nat} (hn : n < 4294967296) (h : R (.ret (u8s (be4 n))) σ) : C tE 42 [.int .u64 n, i64 4] σ R := by
  have e3 : IntKind.u8.wrap ((n % 256 : Nat) : Int) = ((UInt8.ofNat n).toNat : Int) := by rw [IntKind.wrap_u8]; simp
  have e2 : IntKind.u8.wrap ((n / 256 % 256 : Nat) : Int) = ((UInt8.ofNat (n / 256)).toNat : Int) := by rw [IntKind.wrap_u8]; simp
  have i3 : IntKind.i64.wrap 3 = 3 := by decide
  have i2 : IntKind.i64.wrap 2 = 2 := by decide
  have i1 : IntKind.i64.wrap 1 = 1 := by decide
  have i0 : IntKind.i64.wrap 0 = 0 := by decide
  have im : IntKind.i64.wrap (-1) = -1 := by decide
  refine C_pure tOK rfl ?_
  refine C_bodyk tOK Try.func42 rfl (Nat.le_of_ble_eq_true rfl) fun K hK => ?_; simp
  repeat (first | (refine T_seqk fun K hK => ?_) | (refine T_reg tOK rfl ?_; simp [tm256,td256,i3,i2,i1,i0,im]) | (refine T_ret ?_; try simp) | (refine T_skip ?_; try simp) | (refine T_blockk fun K hK => ?_) | (with_reducible apply_assumption -exfalso -symm) | (rw [afterRF_ret]; simp [tm256,td256,i3,i2,i1,i0,im]) | (refine T_exit ?_; try simp) | (refine T_cond_t ?_ ?_; · (simp; done)) | (refine T_cond_f ?_ ?_; · (simp; done)) | (rintro _ _ (_ | _) hz9 <;> first | (simp; done) | (simp at hz9; done)) | (refine And.intro ?_ ?_) | (simp only [Post.block_ret, Post.block_exit, Post.block_normal, Post.block_pan, Post.seq_ret, Post.seq_exit, Post.seq_normal, Post.seq_pan]; try simp [tm256,td256,i3,i2,i1,i0,im]) | (refine T_loop (TL_round ?_)) | (refine TL_round ?_))
  have u (m : Nat) (hm : m < 18446744073709551616) : IntKind.u64.wrap (m : Int) = (m : Int) := by
    rw [IntKind.wrap_u64]; omega
  have k1 : IntKind.u64.wrap ((n : Int) / 256) = ((n / 256 : Nat) : Int) := by rw [← u (n / 256) (by omega)]; congr 1
  have k2 : IntKind.u64.wrap ((n / 256 / 256 : Nat) : Int) = ((n / 256 / 256 : Nat) : Int) := u _ (by omega)
  have k3 : IntKind.u64.wrap ((n / 256 / 256 / 256 : Nat) : Int) = ((n / 256 / 256 / 256 : Nat) : Int) := u _ (by omega)
  have e (m : Nat) : IntKind.u8.wrap ((m % 256 : Nat) : Int) = ((UInt8.ofNat m).toNat : Int) := by rw [IntKind.wrap_u8]; simp
  have e0 : IntKind.u8.wrap ((n : Int) % 256) = ((UInt8.ofNat n).toNat : Int) := by rw [← e]; congr 1
  rw [k1, td256, k2, td256, k3, tm256, tm256, tm256, e, e, e, e0]
  have q2 : n / 256 / 256 = n / 65536 := by omega
  have q3 : n / 256 / 256 / 256 = n / 16777216 := by omega
  rw [q3, q2]
  simp [frzRe, frz, -UInt8.toNat_ofNat']
  exact h
set_option maxHeartbeats 2000000 in
theorem C_read4 {a b c d : UInt8} (h : R (.ret (.int .u64 (a.toNat * 16777216 + b.toNat * 65536 + c.toNat * 256 + d.toNat : Nat))) σ) : C tE 35 [u8s [a, b, c, d]] σ R := by
  have ha := a.toNat_lt
  have hb := b.toNat_lt
  have hc := c.toNat_lt
  have hd := d.toNat_lt
  have i1 : IntKind.i64.wrap 1 = 1 := by decide
  have i2 : IntKind.i64.wrap 2 = 2 := by decide
  have i3 : IntKind.i64.wrap 3 = 3 := by decide
  have i4 : IntKind.i64.wrap 4 = 4 := by decide
  refine C_pure tOK (by simp [pureL_u8]) ?_
  simp only [u8s, u8l, List.map_cons, List.map_nil]
  refine C_bodyk tOK Try.func35 rfl (Nat.le_of_ble_eq_true rfl) fun K hK => ?_; simp
  repeat (first | (refine T_seqk fun K hK => ?_) | (refine T_reg tOK rfl ?_; simp [i1,i2,i3,i4]) | (refine T_ret ?_; try simp) | (refine T_skip ?_; try simp) | (refine T_blockk fun K hK => ?_) | (with_reducible apply_assumption -exfalso -symm) | (rw [afterRF_ret]; simp [i1,i2,i3,i4]) | (refine T_exit ?_; try simp) | (refine T_cond_t ?_ ?_; · (simp; done)) | (refine T_cond_f ?_ ?_; · (simp; done)) | (rintro _ _ (_ | _) hz9 <;> first | (simp; done) | (simp at hz9; done)) | (refine And.intro ?_ ?_) | (simp only [Post.block_ret, Post.block_exit, Post.block_normal, Post.block_pan, Post.seq_ret, Post.seq_exit, Post.seq_normal, Post.seq_pan]; try simp [i1,i2,i3,i4]) | (refine T_loop (TL_round ?_)) | (refine TL_round ?_))
  have e : IntKind.u64.wrap (IntKind.u64.wrap (IntKind.u64.wrap (IntKind.u64.wrap (IntKind.u64.wrap (IntKind.u64.wrap (IntKind.u64.wrap (IntKind.u64.wrap 0 + IntKind.u64.wrap (a.toNat : Int)) * 256) + IntKind.u64.wrap (b.toNat : Int)) * 256) + IntKind.u64.wrap (c.toNat : Int)) * 256) + IntKind.u64.wrap (d.toNat : Int)) = ((a.toNat * 16777216 + b.toNat * 65536 + c.toNat * 256 + d.toNat : Nat) : Int) := by
    simp only [IntKind.wrap_u64]
    omega
  rw [e]
  exact h
end
end Go.Proofs.Ytdplbgfokoajjaa
end
section
/- The document's Put. -/
set_option linter.unusedVariables false
set_option linter.unusedSimpArgs false
set_option maxRecDepth 20000
namespace Go.Proofs.Ytdplbgfokoajjaa
open Go
attribute [local simp] RF_nil RF_cons afterRF_ret nilCmp sop sGuard isCall sCallee Fr.eval Fr.get Fr.put ofConst sLoad sStore sBuiltin Fr.args bodyQ sRes oneOf sBin sInt sUn
attribute [local simp] RD_nil RD_cons noConf clear accAdd Tab.pr Tab.slot foot wid idOf refId Op.operands Call.operands sFieldAddr sNilCheck sLookup keyLit sMapSet sMapDel sLen Store.at Store.new getP setP typeAt fits evalParts sBuildSlice sFill sList sApp sAppend frzRe frz pureB pureL
attribute [local simp] optEval sSlice sIndexAddr xop sClear
section
variable {R : Re → Store → Prop} {σ : Store}
theorem C_rof_ref {b g n : Nat} {l : List UInt8} (hb : Store.at σ b = some (.cells 5 g (u8l l))) (hn : n = l.length) (hl : l.length < 1000000000) (h : R (.ret (.int .u32 (crc l : Nat))) σ) : C tE 36 [.ref b g 0 n] σ R := by
  refine C_lend tOK (args' := [u8s l]) ?_ (C_rof hl ⟨rfl, h⟩)
  simp only [List.mapM_cons, List.mapM_nil]
  rw [frz_u8row hb hn]; rfl
set_option maxHeartbeats 1000000 in
theorem C_rput {l : List Int} (hl : l.length < 1000000000) (h : R (.ret (u8s (manPut l))) σ) : C tE 11 [.lit (is l)] σ R := by
  have hll := is_len l
  refine C_pure tOK (by simp [pureL_is]) ?_
  unfold manPut at h
  cases c : okL l with
  | false =>
    rw [c] at h
    refine C_bodyk tOK Try.func11 rfl (Nat.le_of_ble_eq_true rfl) fun K hK => ?_; simp
    repeat (first | (refine T_seqk fun K hK => ?_) | (refine T_reg tOK rfl ?_; simp) | (refine T_ret ?_; try simp) | (refine T_skip ?_; try simp) | (refine T_blockk fun K hK => ?_) | (with_reducible apply_assumption -exfalso -symm) | (rw [afterRF_ret]; simp) | (refine T_exit ?_; try simp) | (refine T_cond_t ?_ ?_; · (simp; done)) | (refine T_cond_f ?_ ?_; · (simp; done)) | (rintro _ _ (_ | _) hz9 <;> first | (simp; done) | (simp at hz9; done)) | (refine And.intro ?_ ?_) | (simp only [Post.block_ret, Post.block_exit, Post.block_normal, Post.block_pan, Post.seq_ret, Post.seq_exit, Post.seq_normal, Post.seq_pan]; try simp) | (refine T_loop (TL_round ?_)) | (refine TL_round ?_))
    refine C_rright hl ?_
    rw [c]
    repeat (first | (refine T_seqk fun K hK => ?_) | (refine T_reg tOK rfl ?_; simp) | (refine T_ret ?_; try simp) | (refine T_skip ?_; try simp) | (refine T_blockk fun K hK => ?_) | (with_reducible apply_assumption -exfalso -symm) | (rw [afterRF_ret]; simp) | (refine T_exit ?_; try simp) | (refine T_cond_t ?_ ?_; · (simp; done)) | (refine T_cond_f ?_ ?_; · (simp; done)) | (rintro _ _ (_ | _) hz9 <;> first | (simp; done) | (simp at hz9; done)) | (refine And.intro ?_ ?_) | (simp only [Post.block_ret, Post.block_exit, Post.block_normal, Post.block_pan, Post.seq_ret, Post.seq_exit, Post.seq_normal, Post.seq_pan]; try simp) | (refine T_loop (TL_round ?_)) | (refine TL_round ?_))
  | true =>
    rw [c, if_pos rfl] at h
    have hin : l.all inB = true := by unfold okL at c; simp only [Bool.and_eq_true] at c; exact c.1.2
    have h40 : l.length ≤ 40 := by unfold okL at c; simp only [Bool.and_eq_true, decide_eq_true_eq] at c; exact c.1.1.2
    have hw := wrap8n l.length
    refine C_bodyk tOK Try.func11 rfl (Nat.le_of_ble_eq_true rfl) fun K hK => ?_; simp
    repeat (first | (refine T_seqk fun K hK => ?_) | (refine T_reg tOK rfl ?_; simp [hll]) | (refine T_ret ?_; try simp) | (refine T_skip ?_; try simp) | (refine T_blockk fun K hK => ?_) | (with_reducible apply_assumption -exfalso -symm) | (rw [afterRF_ret]; simp [hll]) | (refine T_exit ?_; try simp) | (refine T_cond_t ?_ ?_; · (simp; done)) | (refine T_cond_f ?_ ?_; · (simp; done)) | (rintro _ _ (_ | _) hz9 <;> first | (simp; done) | (simp at hz9; done)) | (refine And.intro ?_ ?_) | (simp only [Post.block_ret, Post.block_exit, Post.block_normal, Post.block_pan, Post.seq_ret, Post.seq_exit, Post.seq_normal, Post.seq_pan]; try simp [hll]))
    refine C_rright hl ?_
    rw [c]
    repeat (first | (refine T_seqk fun K hK => ?_) | (refine T_reg tOK rfl ?_; simp [hll,hw,-UInt8.toNat_ofNat']) | (refine T_ret ?_; try simp) | (refine T_skip ?_; try simp) | (refine T_blockk fun K hK => ?_) | (with_reducible apply_assumption -exfalso -symm) | (rw [afterRF_ret]; simp [hll,hw,-UInt8.toNat_ofNat']) | (refine T_exit ?_; try simp) | (refine T_cond_t ?_ ?_; · (simp; done)) | (refine T_cond_f ?_ ?_; · (simp; done)) | (rintro _ _ (_ | _) hz9 <;> first | (simp; done) | (simp at hz9; done)) | (refine And.intro ?_ ?_) | (simp only [Post.block_ret, Post.block_exit, Post.block_normal, Post.block_pan, Post.seq_ret, Post.seq_exit, Post.seq_normal, Post.seq_pan]; try simp [hll,hw,-UInt8.toNat_ofNat']))
    refine T_loop ?_
    refine TL_keep [0, 3, 4] ?_
    simp [Fr.keep,-UInt8.toNat_ofNat']
    refine TL_ix (fun k => [(0, .lit (is l)), (3, .ref 0 k 0 (4 * k + 1)), (4, i64 k)]) (fun k => [some (.cells 5 k (u8l (UInt8.ofNat l.length :: mbody (l.take k))))]) l.length (fun _ => True) trivial (fun _ => ?_) (fun k hk _ ih => ?_)
    · rw [List.take_length]
      have hml := mbody_len l
      have hol : (UInt8.ofNat l.length :: mbody l).length = 4 * l.length + 1 := by simp [hml]
      have hq : 2 * (4 * l.length + 1 + 4) + 1000 ≤ 281474976710656 := by omega
      have htk : (u8l (mout l)).take (4 * l.length + 1) = u8l (mout l) := List.take_of_length_le (by rw [u8l_len, mout, hol]; exact Nat.le_refl _)
      have hol2 : (u8l (mout l)).length = 4 * l.length + 1 := by rw [u8l_len, mout, hol]
      have hb4 : (u8l (be4 (crc (mout l)))).length = 4 := rfl
      have happ := (u8l_app (mout l) (be4 (crc (mout l)))).symm
      rw [show UInt8.ofNat l.length :: mbody l = mout l from rfl]
      refine TL_round ?_
      repeat (first | (refine T_seqk fun K hK => ?_) | (refine T_reg tOK rfl ?_; simp [hll]) | (refine T_ret ?_; try simp) | (refine T_skip ?_; try simp) | (refine T_blockk fun K hK => ?_) | (with_reducible apply_assumption -exfalso -symm) | (rw [afterRF_ret]; simp [hll]) | (refine T_exit ?_; try simp) | (refine T_cond_t ?_ ?_; · (simp; done)) | (refine T_cond_f ?_ ?_; · (simp; done)) | (rintro _ _ (_ | _) hz9 <;> first | (simp; done) | (simp at hz9; done)) | (refine And.intro ?_ ?_) | (simp only [Post.block_ret, Post.block_exit, Post.block_normal, Post.block_pan, Post.seq_ret, Post.seq_exit, Post.seq_normal, Post.seq_pan]; try simp [hll]))
      refine C_rof_ref (l := mout l) rfl (by rw [mout, hol]) (by rw [mout, hol]; omega) ?_
      repeat (first | (refine T_seqk fun K hK => ?_) | (refine T_reg tOK rfl ?_; simp [hll]) | (refine T_ret ?_; try simp) | (refine T_skip ?_; try simp) | (refine T_blockk fun K hK => ?_) | (with_reducible apply_assumption -exfalso -symm) | (rw [afterRF_ret]; simp [hll]) | (refine T_exit ?_; try simp) | (refine T_cond_t ?_ ?_; · (simp; done)) | (refine T_cond_f ?_ ?_; · (simp; done)) | (rintro _ _ (_ | _) hz9 <;> first | (simp; done) | (simp at hz9; done)) | (refine And.intro ?_ ?_) | (simp only [Post.block_ret, Post.block_exit, Post.block_normal, Post.block_pan, Post.seq_ret, Post.seq_exit, Post.seq_normal, Post.seq_pan]; try simp [hll]))
      have hw64 : IntKind.u64.wrap ((crc (mout l) : Nat) : Int) = (crc (mout l) : Nat) := by
        have := crc_lt (mout l)
        rw [IntKind.wrap_u64]; omega
      try rw [hw64]
      refine C_number4 (crc_lt _) ?_
      repeat (first | (refine T_seqk fun K hK => ?_) | (refine T_reg tOK rfl ?_; simp [hq,htk,hol2,hb4,happ]) | (refine T_ret ?_; try simp) | (refine T_skip ?_; try simp) | (refine T_blockk fun K hK => ?_) | (with_reducible apply_assumption -exfalso -symm) | (rw [afterRF_ret]; simp [hq,htk,hol2,hb4,happ]) | (refine T_exit ?_; try simp) | (refine T_cond_t ?_ ?_; · (simp; done)) | (refine T_cond_f ?_ ?_; · (simp; done)) | (rintro _ _ (_ | _) hz9 <;> first | (simp; done) | (simp at hz9; done)) | (refine And.intro ?_ ?_) | (simp only [Post.block_ret, Post.block_exit, Post.block_normal, Post.block_pan, Post.seq_ret, Post.seq_exit, Post.seq_normal, Post.seq_pan]; try simp [hq,htk,hol2,hb4,happ]))
      have hfr := frz_u8row (σ := [some (.cells 5 (l.length + 1) (u8l (mout l ++ be4 (crc (mout l)))))]) (b := 0) (n := 4 * l.length + 1 + 4) rfl (by rw [List.length_append, be4_len, mout, hol])
      rw [frzRe, hfr]
      exact h
    · replace ih := PLift.up (ih trivial)
      have hk0 : decide (k < l.length) = true := by simpa using hk
      have hwk : IntKind.i64.wrap ((k : Int) + 1) = ((k + 1 : Nat) : Int) := by rw [IntWalk.i64_in _ (by omega)]; omega
      have hek := is_get hk
      have hlt : k < (is l).length := by omega
      have hel := get_of hek hlt
      have hb := mbody_take hk
      have hmem := w32 (List.all_eq_true.1 hin l[k] (List.getElem_mem hk))
      have hlen := mbody_len (l.take k)
      rw [List.length_take, Nat.min_eq_left (by omega)] at hlen
      have hx0 : 0 ≤ l[k] := by
        have := List.all_eq_true.1 hin l[k] (List.getElem_mem hk)
        simp only [inB, Bool.and_eq_true, decide_eq_true_eq] at this; exact this.1
      have hx1 : l[k] ≤ 1073741824 := by
        have := List.all_eq_true.1 hin l[k] (List.getElem_mem hk)
        simp only [inB, Bool.and_eq_true, decide_eq_true_eq] at this; exact this.2
      obtain ⟨x, hx⟩ := Int.eq_ofNat_of_zero_le hx0
      rw [hx] at hb hmem hel hek hx1
      have hm64 : IntKind.u64.wrap (x : Int) = (x : Int) := by rw [IntKind.wrap_u64]; omega
      simp only [Int.toNat_natCast] at hb hmem
      have hq : 2 * (4 * k + 1 + 4) + 1000 ≤ 281474976710656 := by omega
      have happ := u8l_app (UInt8.ofNat l.length :: mbody (l.take k)) (be4 x)
      have hol2 : (u8l (UInt8.ofNat l.length :: mbody (l.take k))).length = 4 * k + 1 := by rw [u8l_len, List.length_cons, hlen]
      have htk : (u8l (UInt8.ofNat l.length :: mbody (l.take k))).take (4 * k + 1) = u8l (UInt8.ofNat l.length :: mbody (l.take k)) := List.take_of_length_le (by rw [hol2]; exact Nat.le_refl _)
      have hb4 : (u8l (be4 x)).length = 4 := rfl
      rw [List.cons_append, ← hb] at happ
      replace happ := happ.symm
      generalize hX : mbody (l.take k) = X at *
      refine TL_round ?_
      repeat (first | (refine T_seqk fun K hK => ?_) | (refine T_reg tOK rfl ?_; simp [hll,hk0,hwk,hek,hel,hlt,hm64,hq,hol2,htk,hb4,happ]) | (refine T_ret ?_; try simp) | (refine T_skip ?_; try simp) | (refine T_blockk fun K hK => ?_) | (with_reducible apply_assumption -exfalso -symm) | (rw [afterRF_ret]; simp [hll,hk0,hwk,hek,hel,hlt,hm64,hq,hol2,htk,hb4,happ]) | (refine T_exit ?_; try simp) | (refine T_cond_t ?_ ?_; · (simp; done)) | (refine T_cond_f ?_ ?_; · (simp; done)) | (rintro _ _ (_ | _) hz9 <;> first | (simp; done) | (simp at hz9; done)) | (refine And.intro ?_ ?_) | (simp only [Post.block_ret, Post.block_exit, Post.block_normal, Post.block_pan, Post.seq_ret, Post.seq_exit, Post.seq_normal, Post.seq_pan]; try simp [hll,hk0,hwk,hek,hel,hlt,hm64,hq,hol2,htk,hb4,happ]))
      refine C_number4 (n := x) (by omega) ?_
      repeat (first | (rw [afterRF_ret]; simp [hll,hk0,hwk,hek,hel,hlt,hm64,hq,hol2,htk,hb4,happ]) | with_reducible apply_assumption -exfalso -symm)
      repeat (first | (refine T_seqk fun K hK => ?_) | (refine T_reg tOK rfl ?_; simp [hll,hk0,hwk,hek,hel,hlt,hm64,hq,hol2,htk,hb4,happ]) | (refine T_ret ?_; try simp) | (refine T_skip ?_; try simp) | (refine T_blockk fun K hK => ?_) | (with_reducible apply_assumption -exfalso -symm) | (rw [afterRF_ret]; simp [hll,hk0,hwk,hek,hel,hlt,hm64,hq,hol2,htk,hb4,happ]) | (refine T_exit ?_; try simp) | (refine T_cond_t ?_ ?_; · (simp; done)) | (refine T_cond_f ?_ ?_; · (simp; done)) | (rintro _ _ (_ | _) hz9 <;> first | (simp; done) | (simp at hz9; done)) | (refine And.intro ?_ ?_) | (simp only [Post.block_ret, Post.block_exit, Post.block_normal, Post.block_pan, Post.seq_ret, Post.seq_exit, Post.seq_normal, Post.seq_pan]; try simp [hll,hk0,hwk,hek,hel,hlt,hm64,hq,hol2,htk,hb4,happ]))
      refine TL_keep [0, 3, 4] ?_
      simpa [Fr.keep, Nat.mul_add, Nat.add_right_comm] using ih.down
end
end Go.Proofs.Ytdplbgfokoajjaa
end
section
/- ManifestBack: the walk. -/
set_option linter.unusedVariables false
set_option linter.unusedSimpArgs false
set_option maxRecDepth 20000
namespace Go.Proofs.Ytdplbgfokoajjaa
open Go
attribute [local simp] RF_nil RF_cons afterRF_ret nilCmp sop sGuard isCall sCallee Fr.eval Fr.get Fr.put ofConst sLoad sStore sBuiltin Fr.args bodyQ sRes oneOf sBin sInt sUn
attribute [local simp] RD_nil RD_cons noConf clear accAdd Tab.pr Tab.slot foot wid idOf refId Op.operands Call.operands sFieldAddr sNilCheck sLookup keyLit sMapSet sMapDel sLen Store.at Store.new getP setP typeAt fits evalParts sBuildSlice sFill sList sApp sAppend frzRe frz pureB pureL
attribute [local simp] optEval sSlice sIndexAddr xop sClear
theorem bytesOf_u8l : ∀ l : List UInt8, bytesOf (u8l l) = some l
  | [] => rfl
  | a :: l => by
    have ih := bytesOf_u8l l
    have ha := a.toNat_lt
    unfold u8l at ih ⊢
    simp [bytesOf, ih]; omega
/-- Of a value it may be forgotten what it is. -/
theorem C_weaken {E : Env} {f : FuncId} {args : List PV} {σ : Store} {R : Re → Store → Prop} {x y : PV} (hw : ∀ c v, V E c x v → V E c y v) (h : C E f args σ fun re σ' => re = .ret x ∧ R (.ret y) σ') : C E f args σ R := fun cx vs hn hv =>
  (h cx vs hn hv).mono fun e w ⟨re, σ', cx', h1, h2, h3, h4, h5⟩ => ⟨.ret y, σ', cx', h1, h2.2, by
    rw [h2.1] at h3
    cases e <;> simp only [ReOK] at h3 ⊢
    exact hw _ _ h3, h4, h5⟩
theorem V_fst {E : Env} {c : Cx} {a b : PV} {v : Value} (h : V E c (.tup [a, b]) v) : V E c (.tup [.undef, b]) v := by
  obtain ⟨us, h1, h2⟩ := h.tup_inv
  subst h1
  have key : ∀ ws, VL E c [a, b] ws → VL E c [.undef, b] ws := fun ws h => by
    cases h with
    | undef hs => exact .undef hs
    | one h1 hn h hs => exact .undef hs
    | agg h hs => exact .undef hs
    | tup h hs => exact .undef hs
  exact .tup (key _ h2) .nil
theorem C_get_ref {R : Re → Store → Prop} {σ : Store} {b g n : Nat} {x : List UInt8} (hb : Store.at σ b = some (.cells 5 g (u8l x))) (hn : n = x.length) (hl : x.length < 1000000000) (h : R (.ret (.tup [.undef, i64 (manGet x).2])) σ) : C tE 6 [.ref b g 0 n] σ R := by
  refine C_lend tOK (args' := [u8s x]) ?_ (C_weaken (x := .tup [.lit (is (manGet x).1), i64 (manGet x).2]) (fun c v => V_fst) (C_get hl ⟨rfl, rfl, h⟩))
  simp only [List.mapM_cons, List.mapM_nil]
  rw [frz_u8row hb hn]; rfl
end Go.Proofs.Ytdplbgfokoajjaa
end
section
/- The document's Get. -/
set_option linter.unusedVariables false
set_option linter.unusedSimpArgs false
set_option maxRecDepth 20000
namespace Go.Proofs.Ytdplbgfokoajjaa
open Go
attribute [local irreducible] T TL C RG DP SP YR afterRG DPcall
attribute [-simp] List.map_set
theorem fz_list {α : Type} (f : α → PV) {σ : Store} {n : Nat} (h : ∀ a, frz σ n (f a) = some (f a)) (l : List α) : (l.map f).mapM (frz σ n) = some (l.map f) := mapM_same fun x hx => by
  obtain ⟨a, _, rfl⟩ := List.mem_map.1 hx; exact h a
theorem all_fits {α : Type} (f : α → PV) {U : TypeId} (h : ∀ a, fits tE U (f a) = true) (l : List α) : (l.map f).all (fits tE U) = true := by
  rw [List.all_map, List.all_eq_true]; intro a _; exact h a
theorem mem_fits {α : Type} (f : α → PV) {U : TypeId} (h : ∀ a, fits tE U (f a) = true) (l : List α) : (∀ x ∈ l.map f, fits tE U x = true) = True := by
  refine eq_true fun x hx => ?_
  obtain ⟨a, _, rfl⟩ := List.mem_map.1 hx; exact h a
theorem map_take {α β : Type} (f : α → β) (l : List α) : (l.map f).take l.length = l.map f := by rw [← List.length_map (f := f), List.take_length]
@[simp] theorem pureL_map' {α : Type} (f : α → PV) (h : ∀ a, pureB (f a) = true) (l : List α) : pureL (l.map f) = true := pureL_map f h l
attribute [simp] map_take
@[simp high] theorem fz_i64 (σ : Store) (n : Nat) (l : List Int) : (l.map i64).mapM (frz σ (n + 1)) = some (l.map i64) := fz_list i64 (fun a => by simp [frz]) l
@[simp high] theorem af_i64 (l : List Int) : (l.map i64).all (fits tE 2) = true := all_fits i64 (fun a => by simp [fits]) l
@[simp high] theorem mf_i64 (l : List Int) : (∀ x ∈ l.map i64, fits tE 2 x = true) = True := mem_fits i64 (fun a => by simp [fits]) l
@[simp high] theorem pl_i64 (l : List Int) : pureL (l.map i64) = true := pureL_map i64 (fun a => by simp [pureB]) l
@[simp high] theorem mf_u8l (l : List UInt8) : (∀ x ∈ u8l l, fits tE 5 x = true) = True := mem_fits (fun b : UInt8 => PV.int .u8 b.toNat) (fun a => by simp [fits]) l
@[simp high] theorem pl_u8l (l : List UInt8) : pureL (u8l l) = true := pureL_u8 l
@[simp high] theorem ln_u8l (l : List UInt8) : (u8l l).length = l.length := u8l_len l
@[simp high] theorem tk_u8l (l : List UInt8) (n : Nat) : (u8l l).take n = u8l (l.take n) := by simp [u8l, List.map_take]
@[simp high] theorem dr_u8l (l : List UInt8) (n : Nat) : (u8l l).drop n = u8l (l.drop n) := by simp [u8l, List.map_drop]
theorem C_rright_ref {R : Re → Store → Prop} {σ : Store} {b g n : Nat} {l : List Int} (hb : Store.at σ b = some (.cells 2 g (l.map i64))) (hn : n = l.length) (hl : l.length < 1000000000) (h : R (.ret (.bool (okL l))) σ) : C tE 9 [.ref b g 0 n] σ R := by
  refine C_lend tOK (args' := [.lit (is l)]) ?_ (C_rright hl ⟨rfl, h⟩)
  simp only [List.mapM_cons, List.mapM_nil]
  rw [frz_isrow (l := l) (m := 4) hb hn]; rfl
@[simp] theorem bl_i64 (n : Nat) (l : List Int) : belowL n (l.map i64) = true := belowL_of_pure n _ (pl_i64 l)
attribute [simp] belowL_app
theorem rd4_nat (a b c d : UInt8) : rd4 [a, b, c, d] = ((a.toNat * 16777216 + b.toNat * 65536 + c.toNat * 256 + d.toNat : Nat) : Int) := by
  show (a.toNat : Int) * 16777216 + (b.toNat : Int) * 65536 + (c.toNat : Int) * 256 + d.toNat = _
  simp only [Int.natCast_add, Int.natCast_mul]; rfl
theorem rd4_in (a b c d : UInt8) : 0 ≤ rd4 [a, b, c, d] ∧ rd4 [a, b, c, d] < 4294967296 := by
  rw [rd4_nat]
  have := a.toNat_lt; have := b.toNat_lt; have := c.toNat_lt; have := d.toNat_lt
  omega
section
variable {R : Re → Store → Prop} {σ : Store}
set_option maxHeartbeats 4000000 in
theorem C_rget {b : List UInt8} (hl : b.length < 1000000000) (h : R (.ret (.tup [.lit (is (manGet b).1), i64 (manGet b).2])) σ) : C tE 7 [u8s b] σ R := by
  refine C_pure tOK (by simp [u8s, pureL_u8]) ?_
  unfold u8s
  rcases Nat.eq_zero_or_pos b.length with h0 | h0
  · have hb : b = [] := List.eq_nil_of_length_eq_zero h0
    subst hb
    simp only [manGet, List.length_nil, true_or, if_true] at h
    refine s_body' Try.func7 tOK rfl (by conv => lhs; simp) (by conv => lhs; simp) (by conv => lhs; simp [Fr.args]) rfl (by conv => lhs; try simp) fun R9 hR9 => ?_
    repeat' (first | refine go ?_ | refine s_seq fun y9 hy9 => ?_ | refine qT _ ?_ ?_ | refine qG _ ?_ ?_ | refine qN ?_ ?_ | (refine QB.mk fun hb9 => ?_; (try simp only [hb9]); (try simp at hb9); first | (exfalso; omega) | subst hb9 | skip) | refine sD tOK tmix [([],0),([],1),([0,1],2),([0,1,2],3),([],4),([],5),([4,5],6),([0,1,2,3,4,5,6],7),([0,1,2,3,4,5,6,7],8),([0,1,2,3,4,5,6,7,8],9)] 7 ?_ | refine qD _ ?_ ?_)
    exact h
  · obtain ⟨x, hx⟩ : ∃ x, b.headD 0 = x := ⟨_, rfl⟩
    have hx2 := UInt8.toNat_lt x
    obtain ⟨m, hm⟩ : ∃ m, x.toNat = m := ⟨_, rfl⟩
    have e0 : (u8l b)[0]? = some (.int .u8 m) := by
      cases b with
      | nil => simp at h0
      | cons y b => simp only [List.headD_cons] at hx; subst hx; subst hm; rfl
    have hne : ¬ b = [] := fun e => by rw [e] at h0; simp at h0
    unfold manGet at h
    rw [hx, hm] at h
    by_cases hlen : b.length = 5 + 4 * m
    · rw [if_neg (by omega)] at h
      obtain ⟨n, hn⟩ : ∃ n, b.length = n + 4 := ⟨1 + 4 * m, by omega⟩
      have hw : IntKind.i64.wrap ((b.length : Int) - 4) = (n : Int) := by rw [IntWalk.i64_in _ (by omega)]; omega
      rw [show b.length - 4 = n by omega] at h
      obtain ⟨k1, k2, k3, k4, hk4⟩ := four_of (xs := b.drop n) (by rw [List.length_drop]; omega)
      rw [List.take_of_length_le (by rw [List.length_drop]; omega)] at hk4
      obtain ⟨cv, hcv⟩ : ∃ cv : Nat, k1.toNat * 16777216 + k2.toNat * 65536 + k3.toNat * 256 + k4.toNat = cv := ⟨_, rfl⟩
      have hki : be4 cv = [k1, k2, k3, k4] := by
        have e := be4_rd4 k1 k2 k3 k4
        rw [rd4_nat, Int.toNat_natCast, hcv] at e; exact e
      have hcv2 : cv < 4294967296 := by
        have := k1.toNat_lt; have := k2.toNat_lt; have := k3.toNat_lt; have := k4.toNat_lt; omega
      have cr4 : ∀ {R : Re → Store → Prop} {σ : Store}, R (.ret (.int .u64 (cv : Nat))) σ → C tE 35 [.lit (u8l (b.drop n))] σ R := fun h => by rw [hk4]; refine C_read4 ?_; rw [hcv]; exact h
      have cof : ∀ {R : Re → Store → Prop} {σ : Store}, R (.ret (.int .u32 (crc (b.take n) : Nat))) σ → C tE 36 [.lit (u8l (b.take n))] σ R := fun h => C_rof (by rw [List.length_take]; omega) h
      have hcr := crc_lt (b.take n)
      rw [hk4] at h
      by_cases hc : crc (b.take n) = cv
      · rw [if_neg (by rw [hc, hki]; simp)] at h
        generalize crc (b.take n) = cc at *
        obtain ⟨I, hI⟩ : ∃ I, (b.take n).drop 1 = I := ⟨_, rfl⟩
        rw [hI] at h
        have hIl : I.length = 4 * m := by rw [← hI, List.length_drop, List.length_take]; omega
        have hsl : ∀ j, j < m → (b.take (1 + 4 * j + 4)).drop (1 + 4 * j) = (I.drop (4 * j)).take 4 := fun j hj => by
          rw [← hI, List.drop_drop, List.drop_take, List.drop_take, List.take_take]
          congr 1
          omega
        obtain ⟨gv, hgv⟩ : ∃ gv : Nat → Int, ∀ j, gv j = rd4 ((I.drop (4 * j)).take 4) := ⟨_, fun j => rfl⟩
        have hg0 : ∀ j, j < m → 0 ≤ gv j ∧ gv j < 4294967296 := fun j hj => by
          obtain ⟨a1, a2, a3, a4, ha⟩ := four_of (xs := I.drop (4 * j)) (by rw [List.length_drop]; omega)
          rw [hgv, ha]
          exact rd4_in a1 a2 a3 a4
        have c4 : ∀ j, j < m → ∀ {R : Re → Store → Prop} {σ : Store}, R (.ret (.int .u64 (gv j))) σ → C tE 35 [.lit (u8l ((b.take (1 + 4 * j + 4)).drop (1 + 4 * j)))] σ R := fun j hj {R} {σ} h => by
          rw [hsl j hj]
          obtain ⟨a1, a2, a3, a4, ha⟩ := four_of (xs := I.drop (4 * j)) (by rw [List.length_drop]; omega)
          rw [hgv, ha] at h
          rw [ha]
          refine C_read4 ?_
          rw [← rd4_nat]; exact h
        obtain ⟨G, hG⟩ : ∃ G : Nat → List Int, ∀ j, G j = chunks I j := ⟨_, fun j => rfl⟩
        have hGs : ∀ j, G (j + 1) = G j ++ [gv j] := fun j => by rw [hG, hG, chunks_succ, hgv]
        have hGl : ∀ j, (G j).length = j := fun j => by rw [hG, chunks_len]
        have hG0 : G 0 = [] := by rw [hG]; rfl
        rw [← hG] at h
        have crr := @C_rright_ref
        have crn := @C_rright
        refine s_body' Try.func7 tOK rfl (by conv => lhs; simp) (by conv => lhs; simp) (by conv => lhs; simp [Fr.args]) rfl (by conv => lhs; try simp) fun R9 hR9 => ?_
        have F9 := And.intro @hw <| @e0
        repeat' (first | refine gf ?_ | refine s_seq fun y9 hy9 => ?_ | refine qT _ ?_ ?_ | refine qG _ ?_ ?_ | refine qN ?_ ?_ | (refine QB.mk fun hb9 => ?_; (try simp only [hb9]); (try simp at hb9); first | (exfalso; omega) | subst hb9 | skip) | refine sD tOK tmix [([],0),([],1),([0,1],2),([0,1,2],3),([],4),([],5),([4,5],6),([0,1,2,3,4,5,6],7),([0,1,2,3,4,5,6,7],8),([0,1,2,3,4,5,6,7,8],9)] 7 ?_ | refine qD _ ?_ ?_ | (refine nZ ?_; first | refine cr4 ?_ | refine cof ?_) | (apply d_call []; exact rfl; (solve | (conv => lhs; try simp [hw,e0])); (solve | exact rfl | simp); (solve | (conv => lhs; try simp [hw,e0])); intro τ hτ; refine nZ ?_; first | exact cr4 ⟨rfl, rfl⟩ | exact cof ⟨rfl, rfl⟩))
        refine s_loop fun c9 hc9 => ?_
        refine w_trim 0 [0, 4, 5, 6] (by conv => lhs; simp) (by conv => lhs; simp) (by first | rfl | simp) (by first | rfl | simp) ?_
        refine s_loopn m (fun j fr σ => (j = 0 ∧ fr = [(0, .lit (u8l b)), (4, i64 n), (5, .nils), (6, i64 1)] ∧ σ = []) ∨ (0 < j ∧ fr = [(0, .lit (u8l b)), (4, i64 n), (5, .ref 1 (j - 1) 0 j), (6, i64 (1 + 4 * (j : Int)))] ∧ σ = [some (.cells 2 0 [i64 (gv 0)]), some (.cells 2 (j - 1) ((G j).map i64))])) ?_ (.inl ⟨rfl, by simp, by first | rfl | simp⟩)
        rintro j fr σ hj hS ih
        have hgj := hg0 j
        have hGj := hGl j
        have hGk := hGs j
        have hG1 := hGs 0
        rw [hG0] at hG1
        rcases Nat.lt_or_ge j m with hlt | hge
        · have c4 := @c4 j hlt
          have hgj := hgj hlt
          have z1 : (1 + 4 * (j : Int)).toNat = 1 + 4 * j := by omega
          have z2 : (1 + 4 * (j : Int) + 4).toNat = 1 + 4 * j + 4 := by omega
          rcases hS with ⟨rfl, rfl, rfl⟩ | ⟨hj0, rfl, rfl⟩
          · refine s_round hc9 ?_
            clear hc9
            have c4 : ∀ {R : Re → Store → Prop} {σ : Store}, R (.ret (.int .u64 (gv 0))) σ → C tE 35 [.lit (u8l (b.take 5).tail)] σ R := fun h => by rw [← List.drop_one]; exact c4 h
            have F9 := And.intro @z1 <| @z2
            repeat' (first | refine gf ?_ | refine s_seq fun y9 hy9 => ?_ | refine qT _ ?_ ?_ | refine qG _ ?_ ?_ | refine qN ?_ ?_ | (refine QB.mk fun hb9 => ?_; (try simp only [hb9]); (try simp at hb9); first | (exfalso; omega) | subst hb9 | skip) | refine sD tOK tmix [([],0),([],1),([0,1],2),([0,1,2],3),([],4),([],5),([4,5],6),([0,1,2,3,4,5,6],7),([0,1,2,3,4,5,6,7],8),([0,1,2,3,4,5,6,7,8],9)] 7 ?_ | refine qD _ ?_ ?_ | (refine nZ ?_; refine c4 ?_) | (apply d_call []; exact rfl; (solve | (conv => lhs; try simp [z1,z2])); (solve | exact rfl | simp); (solve | (conv => lhs; try simp [z1,z2])); intro τ hτ; refine nZ ?_; first | exact c4 ⟨rfl, rfl⟩))
            refine w_back 2 [0, 4, 5, 6] (by conv => lhs; simp) (by conv => lhs; simp) (by first | rfl | simp) (by first | rfl | simp) ?_
            exact ih hlt _ _ (.inr ⟨by omega, by simp, by simp [hG1]⟩)
          · have htt : ((G j).map i64).take j = (G j).map i64 := List.take_of_length_le (by simp [hGj])
            refine s_round hc9 ?_
            clear hc9
            have F9 := And.intro @z1 <| And.intro @z2 <| And.intro @hGj <| @htt
            repeat' (first | refine gf ?_ | refine s_seq fun y9 hy9 => ?_ | refine qT _ ?_ ?_ | refine qG _ ?_ ?_ | refine qN ?_ ?_ | (refine QB.mk fun hb9 => ?_; (try simp only [hb9]); (try simp at hb9); first | (exfalso; omega) | subst hb9 | skip) | refine sD tOK tmix [([],0),([],1),([0,1],2),([0,1,2],3),([],4),([],5),([4,5],6),([0,1,2,3,4,5,6],7),([0,1,2,3,4,5,6,7],8),([0,1,2,3,4,5,6,7,8],9)] 7 ?_ | refine qD _ ?_ ?_ | (refine nZ ?_; refine c4 ?_) | (apply d_call []; exact rfl; (solve | (conv => lhs; try simp [z1,z2,hGj,htt])); (solve | exact rfl | simp); (solve | (conv => lhs; try simp [z1,z2,hGj,htt])); intro τ hτ; refine nZ ?_; first | exact c4 ⟨rfl, rfl⟩))
            refine w_back 2 [0, 4, 5, 6] (by conv => lhs; simp) (by conv => lhs; simp) (by first | rfl | simp) (by first | rfl | simp) ?_
            have e1 : j - 1 + 1 = j + 1 - 1 := by omega
            exact ih hlt _ _ (.inr ⟨by omega, by simp [e1]; omega, by simp [hGk, e1]⟩)
        · have hjm : j = m := by omega
          subst hjm
          cases hok : okL (G j) with
          | false =>
            rw [hok] at h
            rcases hS with ⟨rfl, rfl, rfl⟩ | ⟨hj0, rfl, rfl⟩
            · have cr : ∀ {R : Re → Store → Prop} {σ : Store}, R (.ret (.bool false)) σ → C tE 9 [.lit []] σ R := fun h => C_rright (l := []) (by decide) (by rw [hG0] at hok; rw [hok]; exact h)
              refine s_round hc9 ?_
              clear hc9
              repeat' (first | refine go ?_ | refine s_seq fun y9 hy9 => ?_ | refine qT _ ?_ ?_ | refine qG _ ?_ ?_ | refine qN ?_ ?_ | (refine QB.mk fun hb9 => ?_; (try simp only [hb9]); (try simp at hb9); first | (exfalso; omega) | subst hb9 | skip) | refine sD tOK tmix [([],0),([],1),([0,1],2),([0,1,2],3),([],4),([],5),([4,5],6),([0,1,2,3,4,5,6],7),([0,1,2,3,4,5,6,7],8),([0,1,2,3,4,5,6,7,8],9)] 7 ?_ | refine qD _ ?_ ?_ | (refine nZ ?_; refine cr ?_) | (apply d_call []; exact rfl; (solve | (conv => lhs; try simp)); (solve | exact rfl | simp); (solve | (conv => lhs; try simp)); intro τ hτ; refine nZ ?_; first | exact cr ⟨rfl, rfl⟩))
              exact h
            · have cr : ∀ {R : Re → Store → Prop} {σ : Store}, Store.at σ 1 = some (.cells 2 (j - 1) ((G j).map i64)) → R (.ret (.bool false)) σ → C tE 9 [.ref 1 (j - 1) 0 j] σ R := fun hb h => C_rright_ref hb (by rw [hGj]) (by omega) (by rw [hok]; exact h)
              refine s_round hc9 ?_
              clear hc9
              repeat' (first | refine go ?_ | refine s_seq fun y9 hy9 => ?_ | refine qT _ ?_ ?_ | refine qG _ ?_ ?_ | refine qN ?_ ?_ | (refine QB.mk fun hb9 => ?_; (try simp only [hb9]); (try simp at hb9); first | (exfalso; omega) | subst hb9 | skip) | refine sD tOK tmix [([],0),([],1),([0,1],2),([0,1,2],3),([],4),([],5),([4,5],6),([0,1,2,3,4,5,6],7),([0,1,2,3,4,5,6,7],8),([0,1,2,3,4,5,6,7,8],9)] 7 ?_ | refine qD _ ?_ ?_ | (refine nZ ?_; refine (cr rfl) ?_) | (apply d_call []; exact rfl; (solve | (conv => lhs; try simp)); (solve | exact rfl | simp); (solve | (conv => lhs; try simp)); intro τ hτ; refine nZ ?_; first | exact (cr rfl) ⟨rfl, rfl⟩))
              exact h
          | true =>
            rw [hok] at h
            rcases hS with ⟨rfl, rfl, rfl⟩ | ⟨hj0, rfl, rfl⟩
            · exact absurd hok (by rw [hG0]; decide)
            · have cr : ∀ {R : Re → Store → Prop} {σ : Store}, Store.at σ 1 = some (.cells 2 (j - 1) ((G j).map i64)) → R (.ret (.bool true)) σ → C tE 9 [.ref 1 (j - 1) 0 j] σ R := fun hb h => C_rright_ref hb (by rw [hGj]) (by omega) (by rw [hok]; exact h)
              have htt : ((G j).map i64).take j = (G j).map i64 := List.take_of_length_le (by simp [hGj])
              refine s_round hc9 ?_
              clear hc9
              have F9 := And.intro @htt <| @hGj
              repeat' (first | refine gf ?_ | refine s_seq fun y9 hy9 => ?_ | refine qT _ ?_ ?_ | refine qG _ ?_ ?_ | refine qN ?_ ?_ | (refine QB.mk fun hb9 => ?_; (try simp only [hb9]); (try simp at hb9); first | (exfalso; omega) | subst hb9 | skip) | refine sD tOK tmix [([],0),([],1),([0,1],2),([0,1,2],3),([],4),([],5),([4,5],6),([0,1,2,3,4,5,6],7),([0,1,2,3,4,5,6,7],8),([0,1,2,3,4,5,6,7,8],9)] 7 ?_ | refine qD _ ?_ ?_ | (refine nZ ?_; refine (cr rfl) ?_) | (apply d_call []; exact rfl; (solve | (conv => lhs; try simp [htt,hGj])); (solve | exact rfl | simp); (solve | (conv => lhs; try simp [htt,hGj])); intro τ hτ; refine nZ ?_; first | exact (cr rfl) ⟨rfl, rfl⟩))
              exact h
      · rw [if_pos (by
          intro e
          exact hc (be4_inj hcr hcv2 (e.trans hki.symm)))] at h
        generalize crc (b.take n) = cc at *
        refine s_body' Try.func7 tOK rfl (by conv => lhs; simp) (by conv => lhs; simp) (by conv => lhs; simp [Fr.args]) rfl (by conv => lhs; try simp) fun R9 hR9 => ?_
        have F9 := And.intro @hw <| @e0
        repeat' (first | refine gf ?_ | refine s_seq fun y9 hy9 => ?_ | refine qT _ ?_ ?_ | refine qG _ ?_ ?_ | refine qN ?_ ?_ | (refine QB.mk fun hb9 => ?_; (try simp only [hb9]); (try simp at hb9); first | (exfalso; omega) | subst hb9 | skip) | refine sD tOK tmix [([],0),([],1),([0,1],2),([0,1,2],3),([],4),([],5),([4,5],6),([0,1,2,3,4,5,6],7),([0,1,2,3,4,5,6,7],8),([0,1,2,3,4,5,6,7,8],9)] 7 ?_ | refine qD _ ?_ ?_ | (refine nZ ?_; first | refine cr4 ?_ | refine cof ?_) | (apply d_call []; exact rfl; (solve | (conv => lhs; try simp [hw,e0])); (solve | exact rfl | simp); (solve | (conv => lhs; try simp [hw,e0])); intro τ hτ; refine nZ ?_; first | exact cr4 ⟨rfl, rfl⟩ | exact cof ⟨rfl, rfl⟩))
        exact h
    · rw [if_pos (by omega)] at h
      refine s_body' Try.func7 tOK rfl (by conv => lhs; simp) (by conv => lhs; simp) (by conv => lhs; simp [Fr.args]) rfl (by conv => lhs; try simp) fun R9 hR9 => ?_
      have F9 := @e0
      repeat' (first | refine gf ?_ | refine s_seq fun y9 hy9 => ?_ | refine qT _ ?_ ?_ | refine qG _ ?_ ?_ | refine qN ?_ ?_ | (refine QB.mk fun hb9 => ?_; (try simp only [hb9]); (try simp at hb9); first | (exfalso; omega) | subst hb9 | skip) | refine sD tOK tmix [([],0),([],1),([0,1],2),([0,1,2],3),([],4),([],5),([4,5],6),([0,1,2,3,4,5,6],7),([0,1,2,3,4,5,6,7],8),([0,1,2,3,4,5,6,7,8],9)] 7 ?_ | refine qD _ ?_ ?_)
      exact h
end
end Go.Proofs.Ytdplbgfokoajjaa
end
section
/- ManifestTells, walked. -/
set_option linter.unusedVariables false
set_option linter.unusedSimpArgs false
set_option maxRecDepth 20000
namespace Go.Proofs.Ytdplbgfokoajjaa
open Go
attribute [local irreducible] T TL C RG DP SP YR afterRG DPcall
attribute [-simp] List.map_set
section
variable {R : Re → Store → Prop} {σ : Store}
set_option maxHeartbeats 4000000 in
theorem C_mtells {l : List Int} {b : List UInt8} (hl : l.length ≤ 9223372036854775807) (hb : b.length ≤ 9223372036854775807) (h : R (.ret (.bool true)) σ) : C tE 3 [.lit (is l), u8s b] σ R := by
  have il := is_len l
  refine C_pure tOK (by simp [pureL_is]) ?_
  unfold u8s
  refine s_body' Try.func3 tOK rfl (by conv => lhs; simp) (by conv => lhs; simp) (by conv => lhs; simp [Fr.args]) rfl (by conv => lhs; try simp) fun R9 hR9 => ?_
  rcases Nat.lt_or_ge 900 l.length with h9 | h9
  · have F9 := @il
    repeat' (first | refine gf ?_ | refine s_seq fun y9 hy9 => ?_ | refine qT _ ?_ ?_ | refine qG _ ?_ ?_ | refine qN ?_ ?_ | (refine QB.mk fun hb9 => ?_; (try simp only [hb9]); (try simp at hb9); first | (exfalso; omega) | subst hb9 | skip) | refine sD tOK tmix [([],0),([0],1),([0,1],2),([0,1,2],3),([0,1],4),([0,1,2,3,4],5),([0,1,2,3,4,5],6),([0,1,2,3,4,5,6],7),([0,1,2,3,4,5,6,7],8),([0,1,2,3,4,5,6,7,8],9),([0,1,2,3,4,5,6,7,8,9],10),([0,1,2,3,4,5,6,7,8,9,10],11),([0,1,2,3,4,5,6,7,8],12),([0,1,2,3,4,5,6,7,8,9,10,12],13),([0,1,2,3,4,5,6,7,8,9,10,12,13],14),([0,1,2,3,4,5,6,7,8,9,10,11,12,13,14],15),([0,1,2,3,4,5,6,7,8,9,10,11,12,13,14,15],16),([0,1,2,3,4,5,6,7,8,9,10,11,12,13,14,15,16],17),([0,1,2,3,4,5,6,7,8,9,10,11,12,13,14,15,16,17],18),([0,1,2,3,4,5,6,7,8,9,10,11,12,13,14,15,16,17],19),([0,1,2,3,4,5,6,7,8,9,10,11,12,13,14,15,16,17,18,19],20),([0,1,2,3,4,5,6,7,8,9,10,11,12,13,14,15,16,17,18,19,20],21),([0,1,2,3,4,5,6,7,8,9,10,11,12,13,14,15,16,17,18,19,20,21],22),([0,1,2,3,4,5,6,7,8,9,10,11,12,13,14,15,16,17,18,19,20,21,22],23),([0,1,2,3,4,5,6,7,8,9,10,11,12,13,14,15,16,17,18,19,20,21,22],24),([0,1,2,3,4,5,6,7,8,9,10,11,12,13,14,15,16,17,18,19,20,21,22,23,24],25),([0,1,2,3,4,5,6,7,8,9,10,11,12,13,14,15,16,17,18,19,20,21,22,23,24,25],26),([0,1,2,3,4,5,6,7,8,9,10,11,12,13,14,15,16,17,18,19,20,21,22,23,24,25,26],27)] 25 ?_ | refine qD _ ?_ ?_ | (refine nZ ?_; refine C_mhead ?_) | (apply d_call []; exact rfl; (solve | (conv => lhs; try simp [il])); (solve | exact rfl | simp); (solve | (conv => lhs; try simp [il])); intro τ hτ; refine nZ ?_; first | exact C_mhead ⟨rfl, rfl⟩))
    exact h
  · rcases Nat.lt_or_ge 9000 b.length with h8 | h8
    · have F9 := @il
      repeat' (first | refine gf ?_ | refine s_seq fun y9 hy9 => ?_ | refine qT _ ?_ ?_ | refine qG _ ?_ ?_ | refine qN ?_ ?_ | (refine QB.mk fun hb9 => ?_; (try simp only [hb9]); (try simp at hb9); first | (exfalso; omega) | subst hb9 | skip) | refine sD tOK tmix [([],0),([0],1),([0,1],2),([0,1,2],3),([0,1],4),([0,1,2,3,4],5),([0,1,2,3,4,5],6),([0,1,2,3,4,5,6],7),([0,1,2,3,4,5,6,7],8),([0,1,2,3,4,5,6,7,8],9),([0,1,2,3,4,5,6,7,8,9],10),([0,1,2,3,4,5,6,7,8,9,10],11),([0,1,2,3,4,5,6,7,8],12),([0,1,2,3,4,5,6,7,8,9,10,12],13),([0,1,2,3,4,5,6,7,8,9,10,12,13],14),([0,1,2,3,4,5,6,7,8,9,10,11,12,13,14],15),([0,1,2,3,4,5,6,7,8,9,10,11,12,13,14,15],16),([0,1,2,3,4,5,6,7,8,9,10,11,12,13,14,15,16],17),([0,1,2,3,4,5,6,7,8,9,10,11,12,13,14,15,16,17],18),([0,1,2,3,4,5,6,7,8,9,10,11,12,13,14,15,16,17],19),([0,1,2,3,4,5,6,7,8,9,10,11,12,13,14,15,16,17,18,19],20),([0,1,2,3,4,5,6,7,8,9,10,11,12,13,14,15,16,17,18,19,20],21),([0,1,2,3,4,5,6,7,8,9,10,11,12,13,14,15,16,17,18,19,20,21],22),([0,1,2,3,4,5,6,7,8,9,10,11,12,13,14,15,16,17,18,19,20,21,22],23),([0,1,2,3,4,5,6,7,8,9,10,11,12,13,14,15,16,17,18,19,20,21,22],24),([0,1,2,3,4,5,6,7,8,9,10,11,12,13,14,15,16,17,18,19,20,21,22,23,24],25),([0,1,2,3,4,5,6,7,8,9,10,11,12,13,14,15,16,17,18,19,20,21,22,23,24,25],26),([0,1,2,3,4,5,6,7,8,9,10,11,12,13,14,15,16,17,18,19,20,21,22,23,24,25,26],27)] 25 ?_ | refine qD _ ?_ ?_ | (refine nZ ?_; refine C_mhead ?_) | (apply d_call []; exact rfl; (solve | (conv => lhs; try simp [il])); (solve | exact rfl | simp); (solve | (conv => lhs; try simp [il])); intro τ hτ; refine nZ ?_; first | exact C_mhead ⟨rfl, rfl⟩))
      exact h
    · have cg : ∀ {R : Re → Store → Prop} {σ : Store}, R (.ret (.tup [.lit (is (manGet b).1), i64 (manGet b).2])) σ → C tE 6 [.lit (u8l b)] σ R := fun h => C_get (by omega) h
      have crg : ∀ {R : Re → Store → Prop} {σ : Store}, R (.ret (.tup [.lit (is (manGet b).1), i64 (manGet b).2])) σ → C tE 7 [.lit (u8l b)] σ R := fun h => C_rget (by omega) h
      have cr : ∀ {R : Re → Store → Prop} {σ : Store}, R (.ret (.bool (okL l))) σ → C tE 8 [.lit (is l)] σ R := fun h => C_right (by omega) h
      have crr : ∀ {R : Re → Store → Prop} {σ : Store}, R (.ret (.bool (okL l))) σ → C tE 9 [.lit (is l)] σ R := fun h => C_rright (by omega) h
      have cp : ∀ {R : Re → Store → Prop} {σ : Store}, R (.ret (.lit (u8l (manPut l)))) σ → C tE 10 [.lit (is l)] σ R := fun h => C_put (by omega) h
      have crp : ∀ {R : Re → Store → Prop} {σ : Store}, R (.ret (.lit (u8l (manPut l)))) σ → C tE 11 [.lit (is l)] σ R := fun h => C_rput (by omega) h
      have hgl : (manGet b).1.length < 1000000000 := by
        unfold manGet
        split
        · decide
        · split
          · decide
          · split
            · rw [chunks_len]; have := (b.headD 0).toNat_lt; omega
            · decide
      have csm : ∀ {R : Re → Store → Prop} {σ : Store}, R (.ret (.bool true)) σ → C tE 12 [.lit (is (manGet b).1), .lit (is (manGet b).1)] σ R := fun h => C_samei hgl hgl (by rw [beq_self_eq_true]; exact h)
      generalize manGet b = G at *
      generalize manPut l = P at *
      have bu := bytesOf_u8l P
      have F9 := And.intro @il <| @bu
      repeat' (first | refine gf ?_ | refine s_seq fun y9 hy9 => ?_ | refine qT _ ?_ ?_ | refine qG _ ?_ ?_ | refine qN ?_ ?_ | (refine QB.mk fun hb9 => ?_; (try simp only [hb9]); (try simp at hb9); first | (exfalso; omega) | subst hb9 | skip) | refine sD tOK tmix [([],0),([0],1),([0,1],2),([0,1,2],3),([0,1],4),([0,1,2,3,4],5),([0,1,2,3,4,5],6),([0,1,2,3,4,5,6],7),([0,1,2,3,4,5,6,7],8),([0,1,2,3,4,5,6,7,8],9),([0,1,2,3,4,5,6,7,8,9],10),([0,1,2,3,4,5,6,7,8,9,10],11),([0,1,2,3,4,5,6,7,8],12),([0,1,2,3,4,5,6,7,8,9,10,12],13),([0,1,2,3,4,5,6,7,8,9,10,12,13],14),([0,1,2,3,4,5,6,7,8,9,10,11,12,13,14],15),([0,1,2,3,4,5,6,7,8,9,10,11,12,13,14,15],16),([0,1,2,3,4,5,6,7,8,9,10,11,12,13,14,15,16],17),([0,1,2,3,4,5,6,7,8,9,10,11,12,13,14,15,16,17],18),([0,1,2,3,4,5,6,7,8,9,10,11,12,13,14,15,16,17],19),([0,1,2,3,4,5,6,7,8,9,10,11,12,13,14,15,16,17,18,19],20),([0,1,2,3,4,5,6,7,8,9,10,11,12,13,14,15,16,17,18,19,20],21),([0,1,2,3,4,5,6,7,8,9,10,11,12,13,14,15,16,17,18,19,20,21],22),([0,1,2,3,4,5,6,7,8,9,10,11,12,13,14,15,16,17,18,19,20,21,22],23),([0,1,2,3,4,5,6,7,8,9,10,11,12,13,14,15,16,17,18,19,20,21,22],24),([0,1,2,3,4,5,6,7,8,9,10,11,12,13,14,15,16,17,18,19,20,21,22,23,24],25),([0,1,2,3,4,5,6,7,8,9,10,11,12,13,14,15,16,17,18,19,20,21,22,23,24,25],26),([0,1,2,3,4,5,6,7,8,9,10,11,12,13,14,15,16,17,18,19,20,21,22,23,24,25,26],27)] 25 ?_ | refine qD _ ?_ ?_ | (refine nZ ?_; first | refine C_mhead ?_ | refine cg ?_ | refine crg ?_ | refine cr ?_ | refine crr ?_ | refine cp ?_ | refine crp ?_ | refine csm ?_) | (apply d_call []; exact rfl; (solve | (conv => lhs; try simp [il,bu])); (solve | exact rfl | simp); (solve | (conv => lhs; try simp [il,bu])); intro τ hτ; refine nZ ?_; first | exact C_mhead ⟨rfl, rfl⟩ | exact cg ⟨rfl, rfl⟩ | exact crg ⟨rfl, rfl⟩ | exact cr ⟨rfl, rfl⟩ | exact crr ⟨rfl, rfl⟩ | exact cp ⟨rfl, rfl⟩ | exact crp ⟨rfl, rfl⟩ | exact csm ⟨rfl, rfl⟩))
      all_goals exact h
end
end Go.Proofs.Ytdplbgfokoajjaa
end
section
/- From the logic to the statements: what is handed in, and what is asked of the end. -/
set_option linter.unusedVariables false
set_option linter.unusedSimpArgs false
set_option maxRecDepth 4000
namespace Go.Proofs.Ytdplbgfokoajjaa
open Go Go.ChangeShapes Go.RowKit

theorem Try.own : ownKnob Try.prog.godebug = none := by kernel_rfl
theorem Try.laidOut : laidOutB Try.prog = true := by kernel_rfl

section
variable {H : Type} {enc : TypeId × Value → H}
/-- An argument, as a value of the logic's. -/
theorem arg_V {W : World} {sp : Nat → Bool} {held : Bool} {t : TypeId} {v : Value} {d : DataW H} {ps : List MemPlace} {base : Nat} (n : Nat) (hs : simpleT tE n t = true) (hst : ∀ fs, tE.P.underlying t ≠ some (.struct fs)) (harr : ∀ m e, tE.P.underlying t ≠ some (.array m e))
    (hok : Value.okWide tE.P W .any base t v) (h : DataW.Trod enc tE.P W 0 sp held t v d ps) : ∃ x, V tE (cx0 W) x v ∧ Dat tE n t x := by
  obtain ⟨fuel, h⟩ := h
  obtain ⟨x, h1, h2, h3⟩ := trod_VC tOK W fuel n t _ d ps hs h
  have hk := simple_kn hs
  obtain ⟨td, hu, hag⟩ := tOK.und t hk
  have hna : tE.agg t = false := by
    rw [hag]
    cases td <;> first | rfl | (exact absurd hu (hst _)) | (exact absurd hu (harr _ _))
  have hcell : Cell.okWide tE.P W .any base t v := by
    unfold Value.okWide at hok
    rw [hu] at hok
    cases td <;> first | exact hok | (exact absurd hu (hst _)) | (exact absurd hu (harr _ _))
  have hnagg : ∀ cs, v ≠ .agg cs := fun cs e => by
    subst e
    have h5 : Cell.ok tE.P W .any base t (.agg cs) → False := fun hc => by
      unfold Cell.ok at hc
      rw [hu] at hc
      cases td <;> exact hc
    unfold Cell.okWide at hcell
    rw [hu] at hcell
    cases td <;> exact h5 hcell
  have hone : v.cells = #[v] := by
    cases v with
    | agg cs => exact absurd rfl (hnagg cs)
    | _ => rfl
  rw [hone] at h1
  refine ⟨x, V_one h1 (fun t' fs e => ?_), h3⟩
  subst e
  simp only [fits, Bool.and_eq_true, hna] at h2
  exact absurd h2.2 (by simp)

theorem trodAll_stays {W W' : World} (hb : Below W.heap.size W W') : ∀ {ts : List TypeId} {vs : List Value} {ds : List (DataW H)} {ps : List MemPlace}, (∀ t ∈ ts, Try.prog.readableRec t = true ∧ t < Try.prog.types.size) →
    DataW.TrodAll enc Try.prog W 0 (fun _ => true) true ts vs ds ps → (∀ x ∈ ps, x.block < W.heap.size) → DataW.TrodAll enc Try.prog W' 0 (fun b => decide (b < W.heap.size)) true ts vs ds ps
  | [], [], [], ps, _, h, _ => h
  | t :: ts, v :: vs, d :: ds, ps, ht, h, hl => by
    obtain ⟨p, q, h1, h2, rfl⟩ := h
    obtain ⟨k1, k2⟩ := ht t (by simp)
    exact ⟨p, q, Below.trod Try.laidOut k1 k2 h1 hb (fun x hx => hl x (by simp [hx])), trodAll_stays hb (fun t ht' => ht t (by simp [ht'])) h2 (fun x hx => hl x (by simp [hx])), rfl⟩
  | [], _ :: _, _, _, _, h, _ => h.elim
  | [], [], _ :: _, _, _, h, _ => h.elim
  | _ :: _, [], _, _, _, h, _ => h.elim
  | _ :: _, _ :: _, [], _, _, h, _ => h.elim

theorem law_post {s : ChangeSpec} {fn : Func} {W W' : World} {args : Array Value} {ds gs : List (DataW H)} {before : List MemPlace} {fresh : Bool} (hW : DataW.Whole enc Try.prog fn.params.toList s.vars false W args.toList ds gs before) (hb : Below W.heap.size W W')
    (hvars : s.vars = []) (hs : s.fn H (ds ++ gs) = { results := [.lit (.bool true)], args := ds }) (hr : fn.resultTypes = #[4]) (hread : fn.params.toList.all (fun t => Try.prog.readableRec t && decide (t < Try.prog.types.size)) = true) :
    s.post enc Try.prog fn false fresh false false W args (.bool true) W' := by
  have hW' := hW
  obtain ⟨p, q, h1, h2, rfl, h3, h4⟩ := hW
  have hlt := fun x hx => hW'.lt x hx
  have hbool : Try.prog.underlying 4 = some .bool := tOK.td 4 rfl
  refine ⟨ds, gs, p ++ q, [], p, [], hW', ?_, ?_, ?_, ?_, by simp⟩
  · rw [hs, hr]
    cases fresh <;> exact trodAll_mk1 (shut_bool hbool true)
  · rw [hs]
    exact trodAll_stays hb (fun t ht => by simpa using List.all_eq_true.1 hread t ht) h1 (fun x hx => hlt x (by simp [hx]))
  · rw [hvars, hs]; rfl
  · refine ⟨hb.os, hb.output, fun i hi => ?_⟩
    rw [hb.block i hi]
    exact (World.keptBut_refl W (fun x => x ∈ p ++ q ∧ (x ∈ ([] : List MemPlace) ∨ x ∈ p ∨ x ∈ ([] : List MemPlace)))).2.2 i hi

/-- A law that answers true, whatever it is called with. -/
theorem law_calls {f : FuncId} {xs : List PV} {W : World} {args : Array Value} (hv : VL tE (cx0 W) xs args.toList) (hC : ∀ R : Re → Store → Prop, (∀ σ, R (.ret (.bool true)) σ) → C tE f xs [] R) :
    Calls Try.prog f args W fun e W' => e = .returned (.bool true) ∧ Below W.heap.size W W' := by
  have := hC (fun re _ => re = .ret (.bool true)) (fun _ => rfl) (cx0 W) args (Now.cx0 W) hv
  refine Calls.mono this ?_
  rintro e w' ⟨re, σ', cx', rfl, rfl, hre, hn, hs⟩
  refine ⟨?_, ⟨hs.os, hs.tape, hs.output, hs.size, fun k hk => hs.keeps k hk⟩⟩
  cases e <;> simp only [ReOK] at hre
  have := V.bool_inv hre
  rw [this]

theorem dat_int {n : Nat} {x : PV} (h : Dat tE (n + 1) 3 x) : ∃ k, x = i64 k ∧ -9223372036854775808 ≤ k ∧ k ≤ 9223372036854775807 := by
  obtain ⟨k, rfl, hw⟩ := (h : ∃ i, x = .int .i64 i ∧ (Lit.int .i64 i).wf = true)
  refine ⟨k, rfl, ?_⟩
  simp [Lit.wf, IntKind.has, IntKind.min, IntKind.max, IntKind.signed, IntKind.bits] at hw
  omega
theorem dat_u8 {n : Nat} {x : PV} (h : Dat tE (n + 1) 5 x) : ∃ k : UInt8, x = .int .u8 k.toNat := by
  obtain ⟨k, rfl, hw⟩ := (h : ∃ i, x = .int .u8 i ∧ (Lit.int .u8 i).wf = true)
  simp [Lit.wf, IntKind.has, IntKind.min, IntKind.max, IntKind.signed, IntKind.bits] at hw
  refine ⟨UInt8.ofNat k.toNat, ?_⟩
  have : (UInt8.ofNat k.toNat).toNat = k.toNat := by simp; omega
  rw [this]
  congr 1; omega
theorem dat_str {n : Nat} {x : PV} (h : Dat tE (n + 1) 9 x) : ∃ s : ByteArray, x = .str s ∧ s.size ≤ maxLen := h
theorem dat_list {n : Nat} {e t : TypeId} {x : PV} {α : Type} {f : α → PV} {P : α → Prop} (h : ∃ xs, x = .lit xs ∧ xs.length ≤ maxLen ∧ ∀ y ∈ xs, Dat tE n e y) (hf : ∀ y, Dat tE n e y → ∃ a, y = f a ∧ P a) :
    ∃ l : List α, x = .lit (l.map f) ∧ l.length ≤ maxLen ∧ ∀ a ∈ l, P a := by
  obtain ⟨xs, rfl, hl, hx⟩ := h
  have : ∃ l : List α, xs = l.map f ∧ ∀ a ∈ l, P a := by
    clear hl
    induction xs with
    | nil => exact ⟨[], rfl, by simp⟩
    | cons y ys ih =>
      obtain ⟨a, rfl, ha⟩ := hf y (hx y (by simp))
      obtain ⟨l, rfl, hl⟩ := ih fun y hy => hx y (by simp [hy])
      exact ⟨a :: l, rfl, fun b hb => by rcases List.mem_cons.1 hb with rfl | hb; exact ha; exact hl b hb⟩
  obtain ⟨l, rfl, h2⟩ := this
  exact ⟨l, rfl, by simpa using hl, h2⟩
theorem dat_bytes {n : Nat} {x : PV} (h : Dat tE (n + 2) 23 x) : ∃ l : List UInt8, x = u8s l ∧ l.length ≤ maxLen := by
  obtain ⟨l, rfl, h1, _⟩ := dat_list (t := 0) (f := fun b : UInt8 => PV.int .u8 b.toNat) (P := fun _ => True) (h : ∃ xs, x = .lit xs ∧ xs.length ≤ maxLen ∧ ∀ y ∈ xs, Dat tE (n + 1) 5 y) (fun y hy => by
    obtain ⟨k, rfl⟩ := dat_u8 hy
    exact ⟨k, rfl, trivial⟩)
  exact ⟨l, rfl, h1⟩
theorem dat_ints {n : Nat} {x : PV} (h : Dat tE (n + 2) 39 x) : ∃ l : List Int, x = .lit (ints l) ∧ l.length ≤ maxLen ∧ ∀ k ∈ l, -9223372036854775808 ≤ k ∧ k ≤ 9223372036854775807 :=
  dat_list (t := 0) (f := i64) (P := fun k => -9223372036854775808 ≤ k ∧ k ≤ 9223372036854775807) (h : ∃ xs, x = .lit xs ∧ xs.length ≤ maxLen ∧ ∀ y ∈ xs, Dat tE (n + 1) 3 y) (fun y hy => dat_int hy)
end
end Go.Proofs.Ytdplbgfokoajjaa
end
