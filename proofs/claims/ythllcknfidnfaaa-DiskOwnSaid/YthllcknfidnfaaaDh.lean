/- Package disk: calls through closures. -/
import Derived.Test.YthllcknfidnfaaaDk
set_option linter.unusedVariables false
set_option linter.unusedSimpArgs false
set_option maxRecDepth 4000
namespace Go.Proofs.Ythllcknfidnfaaa
open Go
attribute [local simp] RF_nil RF_cons afterRF_ret nilCmp sop sGuard isCall sCallee Fr.eval Fr.get Fr.put ofConst sLoad sStore sBuiltin Fr.args bodyQ sRes oneOf sBin sInt sUn
attribute [local simp] RD_nil RD_cons noConf clear accAdd Tab.pr Tab.slot foot wid idOf refId Op.operands Call.operands sFieldAddr sNilCheck sLookup keyLit sMapSet sMapDel sLen Store.at Store.new getP setP typeAt fits evalParts sBuildSlice sFill sList sApp sAppend frzRe frz pureB pureL
attribute [local simp] dkB dkS u8s
section
variable {R : Re → Store → Prop} {σ : Store} {d : Dk} {n : Int} {s : ByteArray} {g i j : Nat}
theorem C_have (hi : i < σ.length) (hj : j < σ.length) (h0 : 0 < σ.length)
    (h : R (.ret (.fn (.func 61) [] [.laddr (.ptr 0 0 0 []), .laddr (.str s), .laddr (.fn (.func g) [] [.ptr i 0 0 [], .ptr j 0 0 []])])) σ) :
    C tE 46 [.ptr 0 0 0 [], .str s, .fn (.func g) [] [.ptr i 0 0 [], .ptr j 0 0 []]] σ R := by
  refine C_new tOK ?_
  refine C_bodyk tOK Try.func46 rfl (Nat.le_of_ble_eq_true rfl) fun K hK => ?_; simp
  repeat (first | (refine T_seqk fun K hK => ?_) | (refine T_reg tOK rfl ?_; simp) | (refine T_ret ?_; try simp) | (refine T_skip ?_; try simp) | (refine T_blockk fun K hK => ?_) | apply_assumption -exfalso -symm | (rw [afterRF_ret]; simp) | (refine T_exit ?_; try simp) | (refine T_cond_t ?_ ?_; · (simp; done)) | (refine T_cond_f ?_ ?_; · (simp; done)) | (rintro _ _ (_ | _) hz9 <;> first | (simp; done) | (simp at hz9; done)) | (refine And.intro ?_ ?_) | (simp only [Post.block_ret, Post.block_exit, Post.block_normal, Post.block_pan, Post.seq_ret, Post.seq_exit, Post.seq_normal, Post.seq_pan]; try simp) | (refine T_loop (TL_round ?_)) | (refine TL_round ?_))
  · left; simp
  · have hf : ∀ a b c : Option Blk, a = some (.cells 24 0 [.ptr 0 0 0 []]) → b = some (.cells 9 0 [.str s]) → c = some (.cells 73 0 [.fn (.func g) [] [.ptr i 0 0 [], .ptr j 0 0 []]]) →
        frzT σ.length (σ ++ [a, b, c]) (.fn (.func 61) [] [.ptr σ.length 0 0 [], .ptr (σ.length + 1) 0 0 [], .ptr (σ.length + 2) 0 0 []]) =
        some (.fn (.func 61) [] [.laddr (.ptr 0 0 0 []), .laddr (.str s), .laddr (.fn (.func g) [] [.ptr i 0 0 [], .ptr j 0 0 []])]) := by
      intro a b c ha hb hc
      subst ha; subst hb; subst hc
      simp [frzT, frzN, List.getElem?_append_right, hi, hj, h0]
      rw [if_neg (by omega), if_neg (by omega)]; rfl
    simp only [hf _ _ _ rfl rfl rfl]
    simpa using h
end

theorem at_lt {σ : Store} {b : Nat} {x : Blk} (h : Store.at σ b = some x) : b < σ.length := getElem?_lt (Store.at_some h)
/-- A call of the disk's: whether it is done, and the fuse behind it. -/
def burn (d : Dk) : Dk := { d with fuse := max (d.fuse - 1) (-1) }
def ddel (n : List UInt8) (l : List (List UInt8 × Fl)) : List (List UInt8 × Fl) := l.filter fun p => !(p.1 == n)
def dins (x : List UInt8 × Fl) : List (List UInt8 × Fl) → List (List UInt8 × Fl)
  | [] => [x]
  | y :: r => if (Lit.string x.1).before (.string y.1) then x :: y :: r else y :: dins x r
def dput (n : List UInt8) (f : Fl) (l : List (List UInt8 × Fl)) : List (List UInt8 × Fl) := dins (n, f) (ddel n l)
theorem mdel_enc (n : List UInt8) (l : List (List UInt8 × Fl)) : mdel (.string n) (encFs l) = encFs (ddel n l) := by
  simp only [mdel, encFs, ddel, List.filter_map, Function.comp_def, Lit.sameKey]
theorem mins_enc (x : List UInt8 × Fl) : ∀ l, mins (.string x.1, encF x.2) (encFs l) = encFs (dins x l)
  | [] => rfl
  | y :: l => by
    have ih := mins_enc x l
    simp only [encFs, List.map_cons, mins, dins] at *
    split
    · rfl
    · simp only [List.map_cons, ih]
theorem mput_enc (n : List UInt8) (f : Fl) (l : List (List UInt8 × Fl)) : mput (.string n) (encF f) (encFs l) = encFs (dput n f l) := by
  unfold mput dput
  rw [mdel_enc, mins_enc (n, f)]
section
variable {R : Re → Store → Prop} {d : Dk} {s : ByteArray}
theorem C_sync_dead (hs : s.size ≤ maxLen) (hf : d.fuse = 0) (h : R (.ret (i64 42)) (dkS d)) : C tE 27 [.ptr 0 0 0 [], .str s] (dkS d) R := by
  refine C_new tOK ?_
  refine C_bodyk tOK Try.func27 rfl (Nat.le_of_ble_eq_true rfl) fun K hK => ?_; simp
  repeat (first | (refine T_seqk fun K hK => ?_) | (refine T_reg tOK rfl ?_; simp [hf]) | (refine T_ret ?_; try simp) | (refine T_skip ?_; try simp) | (refine T_blockk fun K hK => ?_) | apply_assumption -exfalso -symm | (rw [afterRF_ret]; simp [hf]) | (refine T_exit ?_; try simp) | (refine T_cond_t ?_ ?_; · (simp; done)) | (refine T_cond_f ?_ ?_; · (simp; done)) | (rintro _ _ (_ | _) hz9 <;> first | (simp; done) | (simp at hz9; done)) | (refine And.intro ?_ ?_) | (simp only [Post.block_ret, Post.block_exit, Post.block_normal, Post.block_pan, Post.seq_ret, Post.seq_exit, Post.seq_normal, Post.seq_pan]; try simp [hf]) | (refine T_loop (TL_round ?_)) | (refine TL_round ?_) | (refine T_draw tOK tmix [([], 0), ([], 1), ([], 2), ([], 3), ([1, 2, 3], 4), ([0, 1, 2, 3, 4], 5), ([0, 1, 2, 3, 4, 5], 6)] 5 (by decide +kernel) ?_; simp [hf]))
  refine RD_call (rd := [0, 2, 3]) (fun τ hτ => C_have (at_lt ((hτ 2 (by simp)).trans rfl)) (at_lt ((hτ 3 (by simp)).trans rfl)) (at_lt ((hτ 0 (by simp)).trans rfl)) ⟨rfl, rfl⟩) ?_
  simp
  repeat (first | (refine T_seqk fun K hK => ?_) | (refine T_reg tOK rfl ?_; simp [hf]) | (refine T_ret ?_; try simp) | (refine T_skip ?_; try simp) | (refine T_blockk fun K hK => ?_) | apply_assumption -exfalso -symm | (rw [afterRF_ret]; simp [hf]) | (refine T_exit ?_; try simp) | (refine T_cond_t ?_ ?_; · (simp; done)) | (refine T_cond_f ?_ ?_; · (simp; done)) | (rintro _ _ (_ | _) hz9 <;> first | (simp; done) | (simp at hz9; done)) | (refine And.intro ?_ ?_) | (simp only [Post.block_ret, Post.block_exit, Post.block_normal, Post.block_pan, Post.seq_ret, Post.seq_exit, Post.seq_normal, Post.seq_pan]; try simp [hf]) | (refine T_loop (TL_round ?_)) | (refine TL_round ?_) | (refine T_draw tOK tmix [([], 0), ([], 1), ([], 2), ([], 3), ([1, 2, 3], 4), ([0, 1, 2, 3, 4], 5), ([0, 1, 2, 3, 4, 5], 6)] 5 (by decide +kernel) ?_; simp [hf]) | (refine C_bodyk tOK Try.func33 rfl (Nat.le_of_ble_eq_true rfl) fun K hK => ?_; simp))
  · left; simp [hf]
  · simpa [frzT, frzN, hf] using h
theorem C_sync_none (hs : s.size ≤ maxLen) (hf : (d.fuse == 0) = false) (hw : IntKind.i64.wrap (d.fuse - 1) = d.fuse - 1) (hg : dget s.data.toList d.files = none) (h : R (.ret (i64 3)) (dkS (burn d))) :
    C tE 27 [.ptr 0 0 0 [], .str s] (dkS d) R := by
  have hm := mget_enc s.data.toList d.files
  rw [hg] at hm
  refine C_new tOK ?_
  refine C_bodyk tOK Try.func27 rfl (Nat.le_of_ble_eq_true rfl) fun K hK => ?_; simp
  repeat (first | (refine T_seqk fun K hK => ?_) | (refine T_reg tOK rfl ?_; simp [hf,hw]) | (refine T_ret ?_; try simp) | (refine T_skip ?_; try simp) | (refine T_blockk fun K hK => ?_) | apply_assumption -exfalso -symm | (rw [afterRF_ret]; simp [hf,hw]) | (refine T_exit ?_; try simp) | (refine T_cond_t ?_ ?_; · (simp; done)) | (refine T_cond_f ?_ ?_; · (simp; done)) | (rintro _ _ (_ | _) hz9 <;> first | (simp; done) | (simp at hz9; done)) | (refine And.intro ?_ ?_) | (simp only [Post.block_ret, Post.block_exit, Post.block_normal, Post.block_pan, Post.seq_ret, Post.seq_exit, Post.seq_normal, Post.seq_pan]; try simp [hf,hw]) | (refine T_loop (TL_round ?_)) | (refine TL_round ?_) | (refine T_draw tOK tmix [([], 0), ([], 1), ([], 2), ([], 3), ([1, 2, 3], 4), ([0, 1, 2, 3, 4], 5), ([0, 1, 2, 3, 4, 5], 6)] 5 (by decide +kernel) ?_; simp [hf,hw]))
  refine RD_call (rd := [0, 2, 3]) (fun τ hτ => C_have (at_lt ((hτ 2 (by simp)).trans rfl)) (at_lt ((hτ 3 (by simp)).trans rfl)) (at_lt ((hτ 0 (by simp)).trans rfl)) ⟨rfl, rfl⟩) ?_
  simp
  repeat (first | (refine T_seqk fun K hK => ?_) | (refine T_reg tOK rfl ?_; simp [hf,hw,hs,hm]) | (refine T_ret ?_; try simp) | (refine T_skip ?_; try simp) | (refine T_blockk fun K hK => ?_) | apply_assumption -exfalso -symm | (rw [afterRF_ret]; simp [hf,hw,hs,hm]) | (refine T_exit ?_; try simp) | (refine T_cond_t ?_ ?_; · (simp; done)) | (refine T_cond_f ?_ ?_; · (simp; done)) | (rintro _ _ (_ | _) hz9 <;> first | (simp; done) | (simp at hz9; done)) | (refine And.intro ?_ ?_) | (simp only [Post.block_ret, Post.block_exit, Post.block_normal, Post.block_pan, Post.seq_ret, Post.seq_exit, Post.seq_normal, Post.seq_pan]; try simp [hf,hw,hs,hm]) | (refine T_loop (TL_round ?_)) | (refine TL_round ?_) | (refine T_draw tOK tmix [([], 0), ([], 1), ([], 2), ([], 3), ([1, 2, 3], 4), ([0, 1, 2, 3, 4], 5), ([0, 1, 2, 3, 4, 5], 6)] 5 (by decide +kernel) ?_; simp [hf,hw,hs,hm]) | (refine T_draw tOK tmix [([], 1), ([0], 2), ([0, 1], 3), ([0, 1, 2], 4), ([], 5), ([0, 1, 2, 3, 4], 6), ([0, 1, 2, 3, 4, 5], 7), ([0, 1, 2, 3, 4, 5, 6], 8), ([0, 1, 2, 3, 4, 5, 6], 9), ([], 0), ([0, 1, 2, 3, 4, 5, 6, 7, 9], 10), ([0, 1, 2, 3, 4, 5, 6, 7, 8, 9, 10], 11)] 11 (by decide +kernel) ?_; simp [hf,hw,hs,hm]) | (refine C_bodyk tOK Try.func33 rfl (Nat.le_of_ble_eq_true rfl) fun K hK => ?_; simp) | (refine C_bodyk tOK Try.func61 rfl (Nat.le_of_ble_eq_true rfl) fun K hK => ?_; simp))
  · right; simp [allStore, allBlk, allL, allB]
    exact fun a b => encFs_all _ _ (a, b)
  · simpa [frzT, frzN, burn] using h
theorem C_sync_fail (hs : s.size ≤ maxLen) (hf : (d.fuse == 0) = false) (hw : IntKind.i64.wrap (d.fuse - 1) = d.fuse - 1) {f : Fl} (hg : dget s.data.toList d.files = some f) (hp : decide (0 < d.fail) = true) (hw2 : IntKind.i64.wrap (d.fail - 1) = d.fail - 1)
    (h : R (.ret (i64 41)) (dkS { burn d with fail := d.fail - 1 })) : C tE 27 [.ptr 0 0 0 [], .str s] (dkS d) R := by
  have hm := mget_enc s.data.toList d.files
  rw [hg] at hm
  refine C_new tOK ?_
  refine C_bodyk tOK Try.func27 rfl (Nat.le_of_ble_eq_true rfl) fun K hK => ?_; simp
  repeat (first | (refine T_seqk fun K hK => ?_) | (refine T_reg tOK rfl ?_; simp [hf,hw]) | (refine T_ret ?_; try simp) | (refine T_skip ?_; try simp) | (refine T_blockk fun K hK => ?_) | apply_assumption -exfalso -symm | (rw [afterRF_ret]; simp [hf,hw]) | (refine T_exit ?_; try simp) | (refine T_cond_t ?_ ?_; · (simp; done)) | (refine T_cond_f ?_ ?_; · (simp; done)) | (rintro _ _ (_ | _) hz9 <;> first | (simp; done) | (simp at hz9; done)) | (refine And.intro ?_ ?_) | (simp only [Post.block_ret, Post.block_exit, Post.block_normal, Post.block_pan, Post.seq_ret, Post.seq_exit, Post.seq_normal, Post.seq_pan]; try simp [hf,hw]) | (refine T_loop (TL_round ?_)) | (refine TL_round ?_) | (refine T_draw tOK tmix [([], 0), ([], 1), ([], 2), ([], 3), ([1, 2, 3], 4), ([0, 1, 2, 3, 4], 5), ([0, 1, 2, 3, 4, 5], 6)] 5 (by decide +kernel) ?_; simp [hf,hw]))
  refine RD_call (rd := [0, 2, 3]) (fun τ hτ => C_have (at_lt ((hτ 2 (by simp)).trans rfl)) (at_lt ((hτ 3 (by simp)).trans rfl)) (at_lt ((hτ 0 (by simp)).trans rfl)) ⟨rfl, rfl⟩) ?_
  simp
  repeat (first | (refine T_seqk fun K hK => ?_) | (refine T_reg tOK rfl ?_; simp [hf,hw,hs,hm,encF,hp,hw2]) | (refine T_ret ?_; try simp) | (refine T_skip ?_; try simp) | (refine T_blockk fun K hK => ?_) | apply_assumption -exfalso -symm | (rw [afterRF_ret]; simp [hf,hw,hs,hm,encF,hp,hw2]) | (refine T_exit ?_; try simp) | (refine T_cond_t ?_ ?_; · (simp; done)) | (refine T_cond_f ?_ ?_; · (simp; done)) | (rintro _ _ (_ | _) hz9 <;> first | (simp; done) | (simp at hz9; done)) | (refine And.intro ?_ ?_) | (simp only [Post.block_ret, Post.block_exit, Post.block_normal, Post.block_pan, Post.seq_ret, Post.seq_exit, Post.seq_normal, Post.seq_pan]; try simp [hf,hw,hs,hm,encF,hp,hw2]) | (refine T_loop (TL_round ?_)) | (refine TL_round ?_) | (refine T_draw tOK tmix [([], 0), ([], 1), ([], 2), ([], 3), ([1, 2, 3], 4), ([0, 1, 2, 3, 4], 5), ([0, 1, 2, 3, 4, 5], 6)] 5 (by decide +kernel) ?_; simp [hf,hw,hs,hm,encF,hp,hw2]) | (refine T_draw tOK tmix [([], 1), ([0], 2), ([0, 1], 3), ([0, 1, 2], 4), ([], 5), ([0, 1, 2, 3, 4], 6), ([0, 1, 2, 3, 4, 5], 7), ([0, 1, 2, 3, 4, 5, 6], 8), ([0, 1, 2, 3, 4, 5, 6], 9), ([], 0), ([0, 1, 2, 3, 4, 5, 6, 7, 9], 10), ([0, 1, 2, 3, 4, 5, 6, 7, 8, 9, 10], 11)] 11 (by decide +kernel) ?_; simp [hf,hw,hs,hm,encF,hp,hw2]) | (refine T_draw tOK tmix [([], 0), ([0], 1), ([0, 1], 2), ([0, 1, 2], 3), ([], 4), ([], 5), ([0, 1, 2, 3, 4, 5], 6)] 6 (by decide +kernel) ?_; simp [hf,hw,hs,hm,encF,hp,hw2]) | (refine C_bodyk tOK Try.func33 rfl (Nat.le_of_ble_eq_true rfl) fun K hK => ?_; simp) | (refine C_bodyk tOK Try.func61 rfl (Nat.le_of_ble_eq_true rfl) fun K hK => ?_; simp) | (refine C_bodyk tOK Try.func47 rfl (Nat.le_of_ble_eq_true rfl) fun K hK => ?_; simp))
  · right; simp [allStore, allBlk, allL, allB]
    exact fun a b => encFs_all _ _ (a, b)
  · simpa [frzT, frzN, burn] using h
theorem C_sync_ok (hs : s.size ≤ maxLen) (hl : (encFs d.files).length < 1000000) (hf : (d.fuse == 0) = false) (hw : IntKind.i64.wrap (d.fuse - 1) = d.fuse - 1) {f : Fl} (hg : dget s.data.toList d.files = some f) (hp : decide (0 < d.fail) = false)
    (h : R (.ret (i64 0)) (dkS { burn d with files := dput s.data.toList { f with last := f.b.length } d.files })) : C tE 27 [.ptr 0 0 0 [], .str s] (dkS d) R := by
  have hm := mget_enc s.data.toList d.files
  rw [hg] at hm
  have hq : mput (.string s.data.toList) (.agg 56 [.lit (u8l f.b), .int .i64 f.b.length]) (encFs d.files) = encFs (dput s.data.toList { f with last := f.b.length } d.files) := mput_enc s.data.toList { f with last := f.b.length } d.files
  have hlen : (u8l f.b).length = f.b.length := by simp [u8l]
  refine C_new tOK ?_
  refine C_bodyk tOK Try.func27 rfl (Nat.le_of_ble_eq_true rfl) fun K hK => ?_; simp
  repeat (first | (refine T_seqk fun K hK => ?_) | (refine T_reg tOK rfl ?_; simp [hf,hw]) | (refine T_ret ?_; try simp) | (refine T_skip ?_; try simp) | (refine T_blockk fun K hK => ?_) | apply_assumption -exfalso -symm | (rw [afterRF_ret]; simp [hf,hw]) | (refine T_exit ?_; try simp) | (refine T_cond_t ?_ ?_; · (simp; done)) | (refine T_cond_f ?_ ?_; · (simp; done)) | (rintro _ _ (_ | _) hz9 <;> first | (simp; done) | (simp at hz9; done)) | (refine And.intro ?_ ?_) | (simp only [Post.block_ret, Post.block_exit, Post.block_normal, Post.block_pan, Post.seq_ret, Post.seq_exit, Post.seq_normal, Post.seq_pan]; try simp [hf,hw]) | (refine T_loop (TL_round ?_)) | (refine TL_round ?_) | (refine T_draw tOK tmix [([], 0), ([], 1), ([], 2), ([], 3), ([1, 2, 3], 4), ([0, 1, 2, 3, 4], 5), ([0, 1, 2, 3, 4, 5], 6)] 5 (by decide +kernel) ?_; simp [hf,hw]))
  refine RD_call (rd := [0, 2, 3]) (fun τ hτ => C_have (at_lt ((hτ 2 (by simp)).trans rfl)) (at_lt ((hτ 3 (by simp)).trans rfl)) (at_lt ((hτ 0 (by simp)).trans rfl)) ⟨rfl, rfl⟩) ?_
  simp
  repeat (first | (refine T_seqk fun K hK => ?_) | (refine T_reg tOK rfl ?_; simp [hf,hw,hs,hm,encF,hp,hl,hlen]) | (refine T_ret ?_; try simp) | (refine T_skip ?_; try simp) | (refine T_blockk fun K hK => ?_) | apply_assumption -exfalso -symm | (rw [afterRF_ret]; simp [hf,hw,hs,hm,encF,hp,hl,hlen]) | (refine T_exit ?_; try simp) | (refine T_cond_t ?_ ?_; · (simp; done)) | (refine T_cond_f ?_ ?_; · (simp; done)) | (rintro _ _ (_ | _) hz9 <;> first | (simp; done) | (simp at hz9; done)) | (refine And.intro ?_ ?_) | (simp only [Post.block_ret, Post.block_exit, Post.block_normal, Post.block_pan, Post.seq_ret, Post.seq_exit, Post.seq_normal, Post.seq_pan]; try simp [hf,hw,hs,hm,encF,hp,hl,hlen]) | (refine T_loop (TL_round ?_)) | (refine TL_round ?_) | (refine T_draw tOK tmix [([], 0), ([], 1), ([], 2), ([], 3), ([1, 2, 3], 4), ([0, 1, 2, 3, 4], 5), ([0, 1, 2, 3, 4, 5], 6)] 5 (by decide +kernel) ?_; simp [hf,hw,hs,hm,encF,hp,hl,hlen]) | (refine T_draw tOK tmix [([], 1), ([0], 2), ([0, 1], 3), ([0, 1, 2], 4), ([], 5), ([0, 1, 2, 3, 4], 6), ([0, 1, 2, 3, 4, 5], 7), ([0, 1, 2, 3, 4, 5, 6], 8), ([0, 1, 2, 3, 4, 5, 6], 9), ([], 0), ([0, 1, 2, 3, 4, 5, 6, 7, 9], 10), ([0, 1, 2, 3, 4, 5, 6, 7, 8, 9, 10], 11)] 11 (by decide +kernel) ?_; simp [hf,hw,hs,hm,encF,hp,hl,hlen]) | (refine T_draw tOK tmix [([], 0), ([0], 1), ([0, 1], 2), ([0, 1, 2], 3), ([], 4), ([], 5), ([0, 1, 2, 3, 4, 5], 6)] 6 (by decide +kernel) ?_; simp [hf,hw,hs,hm,encF,hp,hl,hlen]) | (refine C_bodyk tOK Try.func33 rfl (Nat.le_of_ble_eq_true rfl) fun K hK => ?_; simp) | (refine C_bodyk tOK Try.func61 rfl (Nat.le_of_ble_eq_true rfl) fun K hK => ?_; simp) | (refine C_bodyk tOK Try.func47 rfl (Nat.le_of_ble_eq_true rfl) fun K hK => ?_; simp))
  · right; rw [hq]; simp [allStore, allBlk, allL, allB]
    exact fun a b => encFs_all _ _ (a, b)
  · rw [hq]; simpa [frzT, frzN, burn] using h
end
end Go.Proofs.Ythllcknfidnfaaa