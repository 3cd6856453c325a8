/- Package disk: what its functions hand back, and leave. -/
import Derived.Test.YthllcknfidnfaaaDl
set_option linter.unusedVariables false
set_option linter.unusedSimpArgs false
set_option maxRecDepth 4000
namespace Go.Proofs.Ythllcknfidnfaaa
open Go
theorem tmix : tE.P.follows .mixedOrders = true := by kernel_rfl
attribute [local simp] RF_nil RF_cons afterRF_ret nilCmp sop sGuard isCall sCallee Fr.eval Fr.get Fr.put ofConst sLoad sStore sBuiltin Fr.args bodyQ sRes oneOf sBin sInt sUn
attribute [local simp] RD_nil RD_cons noConf clear accAdd Tab.pr Tab.slot foot wid idOf refId Op.operands Call.operands sFieldAddr sNilCheck sLookup keyLit sMapSet sMapDel sLen Store.at Store.new getP setP typeAt fits evalParts sBuildSlice sFill sList sApp sAppend frzRe frz pureB pureL

abbrev i64 (n : Int) : PV := .int .i64 n
/-- A file: its bytes, and how many of them last. -/
structure Fl where
  b : List UInt8
  last : Int
def u8l (l : List UInt8) : List PV := l.map fun b => .int .u8 b.toNat
abbrev u8s (l : List UInt8) : PV := .lit (u8l l)
def encF (f : Fl) : PV := .agg 56 [u8s f.b, i64 f.last]
structure Dk where
  room : Int
  files : List (List UInt8 × Fl)
  fuse : Int
  fail : Int
def encFs (l : List (List UInt8 × Fl)) : List (Lit × PV) := l.map fun p => (.string p.1, encF p.2)
def dkB (d : Dk) : Blk := .cells 54 0 [.agg 54 [i64 d.room, .map 1, i64 d.fuse, i64 d.fail]]
def dkS (d : Dk) : Store := [some (dkB d), some (.mp 9 (encFs d.files))]
attribute [local simp] dkB dkS u8s

theorem frz_u8l (σ : Store) (n : Nat) {l : List UInt8} : ∀ x ∈ u8l l, frz σ (n + 1) x = some x := fun x hx => by
  obtain ⟨b, _, rfl⟩ := List.mem_map.1 hx; rfl
theorem u8_fit (l : List UInt8) : ((l.map fun b => PV.int .u8 b.toNat).all (fits tE 5)) = true := by
  rw [List.all_map, List.all_eq_true]; intro b _; simp [fits]
theorem u8_fit' (l : List UInt8) : ∀ x ∈ (l.map fun b => PV.int .u8 b.toNat), fits tE 5 x = true := fun x hx => List.all_eq_true.1 (u8_fit l) x hx

section
variable {R : Re → Store → Prop} {σ : Store} {l : List UInt8}
theorem C_clone (hl : l.length < 1000000000) (h : R (.ret (u8s l)) σ) : C tE 37 [u8s l] σ R := by
  refine C_pure tOK (by simp [pureL, pureB]) ?_
  unfold u8s u8l
  cases l with
  | nil =>
    refine C_bodyk tOK Try.func37 rfl (Nat.le_of_ble_eq_true rfl) fun K hK => ?_; simp
    repeat (first | (refine T_seqk fun K hK => ?_) | (refine T_reg tOK rfl ?_; simp) | (refine T_ret ?_; try simp) | (refine T_skip ?_; try simp) | (refine T_blockk fun K hK => ?_) | apply_assumption -exfalso -symm | (rw [afterRF_ret]; simp) | (refine T_exit ?_; try simp) | (refine T_cond_t ?_ ?_; · (simp; done)) | (refine T_cond_f ?_ ?_; · (simp; done)) | (rintro _ _ (_ | _) hz9 <;> first | (simp; done) | (simp at hz9; done)) | (refine And.intro ?_ ?_) | (simp only [Post.block_ret, Post.block_exit, Post.block_normal, Post.block_pan, Post.seq_ret, Post.seq_exit, Post.seq_normal, Post.seq_pan]; try simp) | (refine T_loop (TL_round ?_)) | (refine TL_round ?_))
  | cons b l =>
    have hl' : 2 * (l.length + 1) ≤ 281474976709656 := by simp at hl; omega
    refine C_bodyk tOK Try.func37 rfl (Nat.le_of_ble_eq_true rfl) fun K hK => ?_; simp
    repeat (first | (refine T_seqk fun K hK => ?_) | (refine T_reg tOK rfl ?_; simp [hl']) | (refine T_ret ?_; try simp) | (refine T_skip ?_; try simp) | (refine T_blockk fun K hK => ?_) | apply_assumption -exfalso -symm | (rw [afterRF_ret]; simp [hl']) | (refine T_exit ?_; try simp) | (refine T_cond_t ?_ ?_; · (simp; done)) | (refine T_cond_f ?_ ?_; · (simp; done)) | (rintro _ _ (_ | _) hz9 <;> first | (simp; done) | (simp at hz9; done)) | (refine And.intro ?_ ?_) | (simp only [Post.block_ret, Post.block_exit, Post.block_normal, Post.block_pan, Post.seq_ret, Post.seq_exit, Post.seq_normal, Post.seq_pan]; try simp [hl']) | (refine T_loop (TL_round ?_)) | (refine TL_round ?_))
    rw [frzRe, frz_row (xs := u8l (b :: l)) rfl (by simp [u8l]) (frz_u8l _ _)]
    have e : ((u8l (b :: l)).drop 0).take (l.length + 1) = u8l (b :: l) := by rw [List.drop_zero]; exact List.take_of_length_le (by simp [u8l])
    rw [e]; exact h
end

section
variable {R : Re → Store → Prop} {d : Dk} {n : Int}
theorem C_fuse (h : R (.ret (.tup [])) (dkS { d with fuse := max n (-1) })) : C tE 16 [.ptr 0 0 0 [], i64 n] (dkS d) R := by
  refine C_bodyk tOK Try.func16 rfl (Nat.le_of_ble_eq_true rfl) fun K hK => ?_; simp
  repeat (first | (refine T_seqk fun K hK => ?_) | (refine T_reg tOK rfl ?_; simp) | (refine T_ret ?_; try simp) | (refine T_skip ?_; try simp) | (refine T_blockk fun K hK => ?_) | apply_assumption -exfalso -symm | (rw [afterRF_ret]; simp) | (refine T_exit ?_; try simp) | (refine T_cond_t ?_ ?_; · (simp; done)) | (refine T_cond_f ?_ ?_; · (simp; done)) | (rintro _ _ (_ | _) hz9 <;> first | (simp; done) | (simp at hz9; done)) | (refine And.intro ?_ ?_) | (simp only [Post.block_ret, Post.block_exit, Post.block_normal, Post.block_pan, Post.seq_ret, Post.seq_exit, Post.seq_normal, Post.seq_pan]; try simp) | (refine T_loop (TL_round ?_)) | (refine TL_round ?_))
end

/-- May a file be named so? -/
def named (s : ByteArray) : Bool := !s.toList.isEmpty && decide ((s.size : Int) ≤ 16) && !decide (0 ≤ Lib.idxFunc oddR true s)

section
variable {R : Re → Store → Prop} {σ : Store} {d : Dk} {n : Int} {s : ByteArray}
set_option maxHeartbeats 400000 in
theorem C_named (h : R (.ret (.bool (named s))) σ) : C tE 35 [.str s] σ R := by
  unfold named at h
  by_cases e : s.toList = []
  · have e' : s.toList.isEmpty = true := by simp [e]
    have h : R (.ret (.bool false)) σ := by simpa [e] using h
    refine C_bodyk tOK Try.func35 rfl (Nat.le_of_ble_eq_true rfl) fun K hK => ?_; simp
    repeat (first | (refine T_seqk fun K hK => ?_) | (refine T_reg tOK rfl ?_; simp [e]) | (refine T_ret ?_; try simp) | (refine T_skip ?_; try simp) | (refine T_blockk fun K hK => ?_) | apply_assumption -exfalso -symm | (rw [afterRF_ret]; simp [e]) | (refine T_exit ?_; try simp) | (refine T_cond_t ?_ ?_; · (simp; done)) | (refine T_cond_f ?_ ?_; · (simp; done)) | (rintro _ _ (_ | _) hz9 <;> first | (simp; done) | (simp at hz9; done)) | (refine And.intro ?_ ?_) | (simp only [Post.block_ret, Post.block_exit, Post.block_normal, Post.block_pan, Post.seq_ret, Post.seq_exit, Post.seq_normal, Post.seq_pan]; try simp [e]) | (refine T_loop (TL_round ?_)) | (refine TL_round ?_) | (refine C_contains ?_; simp [e]))
  · have e' : s.toList.isEmpty = false := by simp [e]
    clear e
    cases l : decide ((s.size : Int) ≤ 16) with
    | true =>
      have h : R (.ret (.bool (!decide (0 ≤ Lib.idxFunc oddR true s)))) σ := by simpa only [e', l, Bool.not_false, Bool.true_and] using h
      refine C_bodyk tOK Try.func35 rfl (Nat.le_of_ble_eq_true rfl) fun K hK => ?_; simp
      repeat (first | (refine T_seqk fun K hK => ?_) | (refine T_reg tOK rfl ?_; simp [e',l]) | (refine T_ret ?_; try simp) | (refine T_skip ?_; try simp) | (refine T_blockk fun K hK => ?_) | apply_assumption -exfalso -symm | (rw [afterRF_ret]; simp [e',l]) | (refine T_exit ?_; try simp) | (refine T_cond_t ?_ ?_; · (simp; done)) | (refine T_cond_f ?_ ?_; · (simp; done)) | (rintro _ _ (_ | _) hz9 <;> first | (simp; done) | (simp at hz9; done)) | (refine And.intro ?_ ?_) | (simp only [Post.block_ret, Post.block_exit, Post.block_normal, Post.block_pan, Post.seq_ret, Post.seq_exit, Post.seq_normal, Post.seq_pan]; try simp [e',l]) | (refine T_loop (TL_round ?_)) | (refine TL_round ?_) | (refine C_contains ?_; simp [e',l]))
    | false =>
      have h : R (.ret (.bool false)) σ := by simpa only [e', l, Bool.not_false, Bool.true_and, Bool.false_and] using h
      refine C_bodyk tOK Try.func35 rfl (Nat.le_of_ble_eq_true rfl) fun K hK => ?_; simp
      repeat (first | (refine T_seqk fun K hK => ?_) | (refine T_reg tOK rfl ?_; simp [e',l]) | (refine T_ret ?_; try simp) | (refine T_skip ?_; try simp) | (refine T_blockk fun K hK => ?_) | apply_assumption -exfalso -symm | (rw [afterRF_ret]; simp [e',l]) | (refine T_exit ?_; try simp) | (refine T_cond_t ?_ ?_; · (simp; done)) | (refine T_cond_f ?_ ?_; · (simp; done)) | (rintro _ _ (_ | _) hz9 <;> first | (simp; done) | (simp at hz9; done)) | (refine And.intro ?_ ?_) | (simp only [Post.block_ret, Post.block_exit, Post.block_normal, Post.block_pan, Post.seq_ret, Post.seq_exit, Post.seq_normal, Post.seq_pan]; try simp [e',l]) | (refine T_loop (TL_round ?_)) | (refine TL_round ?_) | (refine C_contains ?_; simp [e',l]))
theorem C_fail (h : R (.ret (.tup [])) (dkS { d with fail := max n 0 })) : C tE 28 [.ptr 0 0 0 [], i64 n] (dkS d) R := by
  refine C_bodyk tOK Try.func28 rfl (Nat.le_of_ble_eq_true rfl) fun K hK => ?_; simp
  repeat (first | (refine T_seqk fun K hK => ?_) | (refine T_reg tOK rfl ?_; simp) | (refine T_ret ?_; try simp) | (refine T_skip ?_; try simp) | (refine T_blockk fun K hK => ?_) | apply_assumption -exfalso -symm | (rw [afterRF_ret]; simp) | (refine T_exit ?_; try simp) | (refine T_cond_t ?_ ?_; · (simp; done)) | (refine T_cond_f ?_ ?_; · (simp; done)) | (rintro _ _ (_ | _) hz9 <;> first | (simp; done) | (simp at hz9; done)) | (refine And.intro ?_ ?_) | (simp only [Post.block_ret, Post.block_exit, Post.block_normal, Post.block_pan, Post.seq_ret, Post.seq_exit, Post.seq_normal, Post.seq_pan]; try simp) | (refine T_loop (TL_round ?_)) | (refine TL_round ?_))
end

theorem encFs_all (p : Nat → Bool) (l : List (List UInt8 × Fl)) : ∀ a ∈ encFs l, allB p a.2 = true := fun a ha => by
  obtain ⟨x, _, rfl⟩ := List.mem_map.1 ha
  simp [encF, u8s, allB, allL]
def names (d : Dk) : List (List UInt8) := (d.files.map (·.1)).mergeSort fun x y => decide (x ≤ y)
section
variable {R : Re → Store → Prop} {d : Dk} {n : Int} {s : ByteArray}
theorem C_list (hl : d.files.length < 1000000000) (h : R (.ret (.lit (strs (names d)))) (dkS d)) : C tE 13 [.ptr 0 0 0 []] (dkS d) R := by
  have hn : ((encFs d.files).map fun p => strOf p.1) = d.files.map (·.1) := by simp [encFs, strOf, Function.comp_def]
  refine C_new tOK ?_
  refine C_bodyk tOK Try.func13 rfl (Nat.le_of_ble_eq_true rfl) fun K hK => ?_; simp
  repeat (first | (refine T_seqk fun K hK => ?_) | (refine T_reg tOK rfl ?_; simp) | (refine T_ret ?_; try simp) | (refine T_skip ?_; try simp) | (refine T_blockk fun K hK => ?_) | apply_assumption -exfalso -symm | (rw [afterRF_ret]; simp) | (refine T_exit ?_; try simp) | (refine T_cond_t ?_ ?_; · (simp; done)) | (refine T_cond_f ?_ ?_; · (simp; done)) | (rintro _ _ (_ | _) hz9 <;> first | (simp; done) | (simp at hz9; done)) | (refine And.intro ?_ ?_) | (simp only [Post.block_ret, Post.block_exit, Post.block_normal, Post.block_pan, Post.seq_ret, Post.seq_exit, Post.seq_normal, Post.seq_pan]; try simp) | (refine T_loop (TL_round ?_)) | (refine TL_round ?_) | (refine C_bodyk tOK Try.func32 rfl (Nat.le_of_ble_eq_true rfl) fun K hK => ?_; simp))
  refine C_sorted (i := 2) (b := 1) (T := 52) (es := encFs d.files) rfl rfl (by simpa [encFs] using hl) ?_
  rw [hn]
  repeat (first | (refine T_seqk fun K hK => ?_) | (refine T_reg tOK rfl ?_; simp) | (refine T_ret ?_; try simp) | (refine T_skip ?_; try simp) | (refine T_blockk fun K hK => ?_) | apply_assumption -exfalso -symm | (rw [afterRF_ret]; simp) | (refine T_exit ?_; try simp) | (refine T_cond_t ?_ ?_; · (simp; done)) | (refine T_cond_f ?_ ?_; · (simp; done)) | (rintro _ _ (_ | _) hz9 <;> first | (simp; done) | (simp at hz9; done)) | (refine And.intro ?_ ?_) | (simp only [Post.block_ret, Post.block_exit, Post.block_normal, Post.block_pan, Post.seq_ret, Post.seq_exit, Post.seq_normal, Post.seq_pan]; try simp) | (refine T_loop (TL_round ?_)) | (refine TL_round ?_))
  · exact .inl rfl
  · simpa [frzT, frzN, names] using h
end

def dget (n : List UInt8) (l : List (List UInt8 × Fl)) : Option Fl := (l.find? fun p => p.1 == n).map (·.2)
theorem mget_enc (n : List UInt8) : ∀ l, mget (.string n) (encFs l) = (dget n l).map encF
  | [] => rfl
  | p :: l => by
    have ih := mget_enc n l
    unfold mget dget encFs at *
    simp only [List.map_cons, List.find?_cons, Lit.sameKey] at *
    cases h : p.1 == n
    · simpa [h] using ih
    · simp [h]
section
variable {R : Re → Store → Prop} {σ : Store} {d : Dk} {n : Int} {s : ByteArray}
theorem C_clone0 (h : R (.ret (u8s [])) σ) : C tE 37 [.nils] σ R := by
  refine C_pure tOK rfl ?_
  refine C_bodyk tOK Try.func37 rfl (Nat.le_of_ble_eq_true rfl) fun K hK => ?_; simp
  repeat (first | (refine T_seqk fun K hK => ?_) | (refine T_reg tOK rfl ?_; simp) | (refine T_ret ?_; try simp) | (refine T_skip ?_; try simp) | (refine T_blockk fun K hK => ?_) | apply_assumption -exfalso -symm | (rw [afterRF_ret]; simp) | (refine T_exit ?_; try simp) | (refine T_cond_t ?_ ?_; · (simp; done)) | (refine T_cond_f ?_ ?_; · (simp; done)) | (rintro _ _ (_ | _) hz9 <;> first | (simp; done) | (simp at hz9; done)) | (refine And.intro ?_ ?_) | (simp only [Post.block_ret, Post.block_exit, Post.block_normal, Post.block_pan, Post.seq_ret, Post.seq_exit, Post.seq_normal, Post.seq_pan]; try simp) | (refine T_loop (TL_round ?_)) | (refine TL_round ?_))
theorem C_read (hs : s.size ≤ maxLen) (hb : ∀ f, dget s.data.toList d.files = some f → f.b.length < 1000000000)
    (h : R (.ret (.tup [u8s ((dget s.data.toList d.files).elim [] (·.b)), .bool (dget s.data.toList d.files).isSome])) (dkS d)) : C tE 19 [.ptr 0 0 0 [], .str s] (dkS d) R := by
  have hm := mget_enc s.data.toList d.files
  refine C_new tOK ?_
  cases hg : dget s.data.toList d.files with
  | none =>
    rw [hg] at hm h
    refine C_bodyk tOK Try.func19 rfl (Nat.le_of_ble_eq_true rfl) fun K hK => ?_; simp
    repeat (first | (refine T_seqk fun K hK => ?_) | (refine T_reg tOK rfl ?_; simp [hs,hm]) | (refine T_ret ?_; try simp) | (refine T_skip ?_; try simp) | (refine T_blockk fun K hK => ?_) | apply_assumption -exfalso -symm | (rw [afterRF_ret]; simp [hs,hm]) | (refine T_exit ?_; try simp) | (refine T_cond_t ?_ ?_; · (simp; done)) | (refine T_cond_f ?_ ?_; · (simp; done)) | (rintro _ _ (_ | _) hz9 <;> first | (simp; done) | (simp at hz9; done)) | (refine And.intro ?_ ?_) | (simp only [Post.block_ret, Post.block_exit, Post.block_normal, Post.block_pan, Post.seq_ret, Post.seq_exit, Post.seq_normal, Post.seq_pan]; try simp [hs,hm]) | (refine T_loop (TL_round ?_)) | (refine TL_round ?_) | (refine C_clone0 ?_; simp [hs,hm]))
    · exact .inl rfl
    · simpa [frzT, frzN] using h
  | some f =>
    have hb := hb f hg
    rw [hg] at hm h
    refine C_bodyk tOK Try.func19 rfl (Nat.le_of_ble_eq_true rfl) fun K hK => ?_; simp
    repeat (first | (refine T_seqk fun K hK => ?_) | (refine T_reg tOK rfl ?_; simp [hs,hm,encF]) | (refine T_ret ?_; try simp) | (refine T_skip ?_; try simp) | (refine T_blockk fun K hK => ?_) | apply_assumption -exfalso -symm | (rw [afterRF_ret]; simp [hs,hm,encF]) | (refine T_exit ?_; try simp) | (refine T_cond_t ?_ ?_; · (simp; done)) | (refine T_cond_f ?_ ?_; · (simp; done)) | (rintro _ _ (_ | _) hz9 <;> first | (simp; done) | (simp at hz9; done)) | (refine And.intro ?_ ?_) | (simp only [Post.block_ret, Post.block_exit, Post.block_normal, Post.block_pan, Post.seq_ret, Post.seq_exit, Post.seq_normal, Post.seq_pan]; try simp [hs,hm,encF]) | (refine T_loop (TL_round ?_)) | (refine TL_round ?_))
    refine C_clone hb ?_
    repeat (first | (refine T_seqk fun K hK => ?_) | (refine T_reg tOK rfl ?_; simp) | (refine T_ret ?_; try simp) | (refine T_skip ?_; try simp) | (refine T_blockk fun K hK => ?_) | apply_assumption -exfalso -symm | (rw [afterRF_ret]; simp) | (refine T_exit ?_; try simp) | (refine T_cond_t ?_ ?_; · (simp; done)) | (refine T_cond_f ?_ ?_; · (simp; done)) | (rintro _ _ (_ | _) hz9 <;> first | (simp; done) | (simp at hz9; done)) | (refine And.intro ?_ ?_) | (simp only [Post.block_ret, Post.block_exit, Post.block_normal, Post.block_pan, Post.seq_ret, Post.seq_exit, Post.seq_normal, Post.seq_pan]; try simp) | (refine T_loop (TL_round ?_)) | (refine TL_round ?_))
    · exact .inl rfl
    · simpa [frzT, frzN] using h
theorem C_synced (hs : s.size ≤ maxLen)
    (h : R (.ret (i64 ((dget s.data.toList d.files).elim 0 (·.last)))) (dkS d)) : C tE 25 [.ptr 0 0 0 [], .str s] (dkS d) R := by
  have hm := mget_enc s.data.toList d.files
  refine C_new tOK ?_
  cases hg : dget s.data.toList d.files with
  | none =>
    rw [hg] at hm h
    refine C_bodyk tOK Try.func25 rfl (Nat.le_of_ble_eq_true rfl) fun K hK => ?_; simp
    repeat (first | (refine T_seqk fun K hK => ?_) | (refine T_reg tOK rfl ?_; simp [hs,hm]) | (refine T_ret ?_; try simp) | (refine T_skip ?_; try simp) | (refine T_blockk fun K hK => ?_) | apply_assumption -exfalso -symm | (rw [afterRF_ret]; simp [hs,hm]) | (refine T_exit ?_; try simp) | (refine T_cond_t ?_ ?_; · (simp; done)) | (refine T_cond_f ?_ ?_; · (simp; done)) | (rintro _ _ (_ | _) hz9 <;> first | (simp; done) | (simp at hz9; done)) | (refine And.intro ?_ ?_) | (simp only [Post.block_ret, Post.block_exit, Post.block_normal, Post.block_pan, Post.seq_ret, Post.seq_exit, Post.seq_normal, Post.seq_pan]; try simp [hs,hm]) | (refine T_loop (TL_round ?_)) | (refine TL_round ?_))
    · exact .inl rfl
    · simpa [frzT, frzN] using h
  | some f =>
    rw [hg] at hm h
    refine C_bodyk tOK Try.func25 rfl (Nat.le_of_ble_eq_true rfl) fun K hK => ?_; simp
    repeat (first | (refine T_seqk fun K hK => ?_) | (refine T_reg tOK rfl ?_; simp [hs,hm,encF]) | (refine T_ret ?_; try simp) | (refine T_skip ?_; try simp) | (refine T_blockk fun K hK => ?_) | apply_assumption -exfalso -symm | (rw [afterRF_ret]; simp [hs,hm,encF]) | (refine T_exit ?_; try simp) | (refine T_cond_t ?_ ?_; · (simp; done)) | (refine T_cond_f ?_ ?_; · (simp; done)) | (rintro _ _ (_ | _) hz9 <;> first | (simp; done) | (simp at hz9; done)) | (refine And.intro ?_ ?_) | (simp only [Post.block_ret, Post.block_exit, Post.block_normal, Post.block_pan, Post.seq_ret, Post.seq_exit, Post.seq_normal, Post.seq_pan]; try simp [hs,hm,encF]) | (refine T_loop (TL_round ?_)) | (refine TL_round ?_))
    · exact .inl rfl
    · simpa [frzT, frzN] using h
end
end Go.Proofs.Ythllcknfidnfaaa
