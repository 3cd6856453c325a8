/- Package sum: the sum of bytes. -/
import Derived.Test.YtdplbgfokoajjaaGreatXd
import Derived.Test.YtdplbgfokoajjaaGreatXg
import Derived.IntWalk
import Derived.Lib.EndianBits
section
set_option linter.unusedVariables false
set_option linter.unusedSimpArgs false
set_option maxRecDepth 20000
namespace Go.Proofs.YtdplbgfokoajjaaGreat
open Go
attribute [local simp] RF_nil RF_cons afterRF_ret nilCmp sop sGuard isCall sCallee Fr.eval Fr.get Fr.put ofConst sLoad sStore sBuiltin Fr.args bodyQ sRes oneOf sBin sInt sUn
attribute [local simp] RD_nil RD_cons noConf clear accAdd Tab.pr Tab.slot foot wid idOf refId Op.operands Call.operands sFieldAddr sNilCheck sLookup keyLit sMapSet sMapDel sLen Store.at Store.new getP setP typeAt fits evalParts sBuildSlice sFill sList sApp sAppend frzRe frz pureB pureL
attribute [local simp] optEval sSlice sIndexAddr
@[simp] theorem all_u8l {p : PV → Prop} {l : List UInt8} : (∀ x, x ∈ u8l l → p x) ↔ ∀ b ∈ l, p (.int .u8 b.toNat) := by simp [u8l]
theorem get_of {α : Type} {xs : List α} {i : Nat} {x : α} (h : xs[i]? = some x) (hlt : i < xs.length) : xs[i]'hlt = x := by
 rw [List.getElem?_eq_getElem hlt] at h; exact Option.some.inj h
def cs (r : Nat) : Nat := (r / 2) ^^^ (if r % 2 = 1 then 3988292384 else 0)
def csN : Nat → Nat → Nat
 | 0, r => r
 | k + 1, r => cs (csN k r)
def cs8 (r : Nat) : Nat := csN 8 r
def crcStep (r : Nat) (c : UInt8) : Nat := (r / 256) ^^^ cs8 ((r % 256) ^^^ c.toNat)
def crcM (s : Nat) (l : List UInt8) : Nat := 4294967295 ^^^ l.foldl crcStep (4294967295 ^^^ s)
def crc (l : List UInt8) : Nat := crcM 0 l
theorem cs_lt {r : Nat} (h : r < 4294967296) : cs r < 4294967296 := by
 unfold cs
 exact Nat.xor_lt_two_pow (n := 32) (by omega) (by split <;> omega)
theorem csN_lt {r : Nat} (h : r < 4294967296) : ∀ k, csN k r < 4294967296
 | 0 => h
 | k + 1 => cs_lt (csN_lt h k)
theorem cs8_lt {r : Nat} (h : r < 4294967296) : cs8 r < 4294967296 := csN_lt h 8
theorem crcStep_lt {r : Nat} (h : r < 4294967296) (c : UInt8) : crcStep r c < 4294967296 := by
 unfold crcStep
 have h1 := UInt8.toNat_lt c
 have : (r % 256) ^^^ c.toNat < 256 := Nat.xor_lt_two_pow (n := 8) (by omega) (by omega)
 exact Nat.xor_lt_two_pow (n := 32) (by omega) (cs8_lt (by omega))
theorem fold_lt : ∀ (l : List UInt8) {r : Nat}, r < 4294967296 → l.foldl crcStep r < 4294967296
 | [], r, h => h
 | c :: l, r, h => fold_lt l (crcStep_lt h c)
theorem crcM_lt {s : Nat} (h : s < 4294967296) (l : List UInt8) : crcM s l < 4294967296 :=
 Nat.xor_lt_two_pow (n := 32) (by omega) (fold_lt l (Nat.xor_lt_two_pow (n := 32) (by omega) h))
theorem xor_nat (k : IntKind) (j : Nat) (hj : j ≤ k.bits) (hk : ∀ n : Int, 0 ≤ n → n < 2 ^ j → k.wrap n = n) (a b : Nat) (ha : a < 2 ^ j) (hb : b < 2 ^ j) : bits .xor k a b = ((a ^^^ b : Nat) : Int) := by
 have hp : 2 ^ j ≤ 2 ^ k.bits := Nat.pow_le_pow_right (by decide) hj
 have ha' : a % 2 ^ k.bits = a := Nat.mod_eq_of_lt (Nat.lt_of_lt_of_le ha hp)
 have hb' : b % 2 ^ k.bits = b := Nat.mod_eq_of_lt (Nat.lt_of_lt_of_le hb hp)
 simp only [bits, BitVec.ofInt_natCast, BitVec.toNat_xor, BitVec.toNat_ofNat, ha', hb']
 exact hk _ (Int.natCast_nonneg _) (by exact_mod_cast Nat.xor_lt_two_pow ha hb)
theorem xor32 {a b : Nat} (ha : a < 4294967296) (hb : b < 4294967296) : bits .xor .u32 (a : Int) (b : Int) = ((a ^^^ b : Nat) : Int) := xor_nat .u32 32 (by decide) wraps_u32 a b ha hb
theorem xor8 {a b : Nat} (ha : a < 256) (hb : b < 256) : bits .xor .u8 (a : Int) (b : Int) = ((a ^^^ b : Nat) : Int) := xor_nat .u8 8 (by decide) wraps_u8 a b ha hb
theorem shr_nat (k : IntKind) (a s : Nat) : (a : Int).fdiv (2 ^ min s k.bits) = ((a / 2 ^ min s k.bits : Nat) : Int) := by
 rw [Int.fdiv_eq_ediv_of_nonneg _ (Int.pow_nonneg (by decide))]; simp
theorem cs_bits {r : Nat} (h : r < 4294967296) : bits .xor .u32 ((r : Int).fdiv (2 ^ min 1 IntKind.u32.bits)) (bits .and .u32 3988292384 (IntKind.u32.wrap (-bits .and .u32 (r : Int) 1))) = ((cs r : Nat) : Int) := by
 have h1 : bits .and .u32 (r : Int) 1 = ((r % 2 : Nat) : Int) := by
  have := bits_mask .u32 32 (by decide) wraps_u32 1 (by decide) (r : Int) (by omega) (by omega)
  simpa using this
 have h2 : (r : Int).fdiv (2 ^ min 1 IntKind.u32.bits) = ((r / 2 : Nat) : Int) := shr_nat .u32 r 1
 rw [h1, h2]
 unfold cs
 rcases Nat.mod_two_eq_zero_or_one r with e | e
 ·rw [e]
  have : bits .and .u32 3988292384 (IntKind.u32.wrap (-((0 : Nat) : Int))) = ((0 : Nat) : Int) := by decide
  rw [this, xor32 (by omega) (by omega)]; simp
 ·rw [e]
  have : bits .and .u32 3988292384 (IntKind.u32.wrap (-((1 : Nat) : Int))) = ((3988292384 : Nat) : Int) := by decide
  rw [this, xor32 (by omega) (by omega)]; simp
def tabF (k i : Nat) : PV := .int .u32 (if i < k then (cs8 i : Int) else 0)
def tabL (k : Nat) : List PV := (List.range 256).map (tabF k)
theorem tabL_len (k : Nat) : (tabL k).length = 256 := by simp [tabL]
theorem tabL_get {k i : Nat} (h : i < 256) : (tabL k)[i]? = some (tabF k i) := by simp [tabL, h]
theorem tabL_set {k : Nat} (h : k < 256) : (tabL k).set k (.int .u32 (cs8 k : Int)) = tabL (k + 1) := by
 apply List.ext_getElem?
 intro i
 rw [List.getElem?_set, tabL_len]
 by_cases hi : i < 256
 ·rw [tabL_get hi]
  by_cases e : k = i
  ·subst e
   simp [h, tabL_get hi, tabF]
  ·rw [if_neg e, tabL_get hi]
   simp only [tabF]
   have : (i < k) = (i < k + 1) := by simp; omega
   simp [this]
 ·rw [List.getElem?_eq_none (by rw [tabL_len]; omega), List.getElem?_eq_none (by rw [tabL_len]; omega)]
  split
  ·simp_all
  ·rfl
theorem tabL_0 : tabL 0 = List.replicate 256 (.int .u32 0) := by
 unfold tabL
 apply List.ext_getElem <;> simp [tabF, -List.reduceReplicate]
section
variable {R : Re → Store → Prop} {σ : Store}
set_option maxHeartbeats 1000000 in
theorem C_table (h : R (.ret (.agg 111 (tabL 256))) σ) : C tE 93 [] σ R := by
 refine C_pure tOK rfl ?_
 refine C_bodyk tOK Tryz.func93 rfl (Nat.le_of_ble_eq_true rfl) fun K hK => ?_; simp
 repeat (first | (refine T_seqk fun K hK => ?_) | (refine T_reg tOK rfl ?_; simp [-List.reduceReplicate]) | (refine T_ret ?_; try simp) | (refine T_skip ?_; try simp) | (refine T_blockk fun K hK => ?_) | (with_reducible apply_assumption -exfalso -symm) | (rw [afterRF_ret]; simp [-List.reduceReplicate]) | (refine T_exit ?_; try simp) | (refine T_cond_t ?_ ?_; · (simp; done)) | (refine T_cond_f ?_ ?_; · (simp; done)) | (rintro _ _ (_ | _) hz9 <;> first | (simp; done) | (simp at hz9; done)) | (refine And.intro ?_ ?_) | (simp only [Post.block_ret, Post.block_exit, Post.block_normal, Post.block_pan, Post.seq_ret, Post.seq_exit, Post.seq_normal, Post.seq_pan]; try simp [-List.reduceReplicate]))
 refine T_loop ?_
 refine TL_keep [0, 1, 4] ?_
 simp [-List.reduceReplicate, Fr.keep]
 rw [← tabL_0]
 refine TL_ix (fun k => [(0, .ptr 0 0 0 []), (1, .ptr 1 0 0 []), (4, i64 k)]) (fun k => [some (.cells 111 0 [.agg 111 (tabL 0)]), some (.cells 111 0 [.agg 111 (tabL k)])]) 256 (fun _ => True) trivial (fun _ => ?_) (fun k hk _ ih => ?_)
 ·refine TL_round ?_
  repeat (first | (refine T_seqk fun K hK => ?_) | (refine T_reg tOK rfl ?_; simp [-List.reduceReplicate]) | (refine T_ret ?_; try simp) | (refine T_skip ?_; try simp) | (refine T_blockk fun K hK => ?_) | (with_reducible apply_assumption -exfalso -symm) | (rw [afterRF_ret]; simp [-List.reduceReplicate]) | (refine T_exit ?_; try simp) | (refine T_cond_t ?_ ?_; · (simp; done)) | (refine T_cond_f ?_ ?_; · (simp; done)) | (rintro _ _ (_ | _) hz9 <;> first | (simp; done) | (simp at hz9; done)) | (refine And.intro ?_ ?_) | (simp only [Post.block_ret, Post.block_exit, Post.block_normal, Post.block_pan, Post.seq_ret, Post.seq_exit, Post.seq_normal, Post.seq_pan]; try simp [-List.reduceReplicate]))
 ·refine TL_round ?_
  replace ih := PLift.up (ih trivial)
  have hk0 : decide ((k : Int) < 256) = true := by rw [decide_eq_true_eq]; omega
  have hw : IntKind.u32.wrap (k : Int) = (k : Int) := wraps_u32 _ (by omega) (by omega)
  have hwk : IntKind.i64.wrap ((k : Int) + 1) = ((k + 1 : Nat) : Int) := by rw [IntWalk.i64_in _ (by omega)]; omega
  repeat (first | (refine T_seqk fun K hK => ?_) | (refine T_reg tOK rfl ?_; simp [-List.reduceReplicate,hk0,hw]) | (refine T_ret ?_; try simp) | (refine T_skip ?_; try simp) | (refine T_blockk fun K hK => ?_) | (with_reducible apply_assumption -exfalso -symm) | (rw [afterRF_ret]; simp [-List.reduceReplicate,hk0,hw]) | (refine T_exit ?_; try simp) | (refine T_cond_t ?_ ?_; · (simp; done)) | (refine T_cond_f ?_ ?_; · (simp; done)) | (rintro _ _ (_ | _) hz9 <;> first | (simp; done) | (simp at hz9; done)) | (refine And.intro ?_ ?_) | (simp only [Post.block_ret, Post.block_exit, Post.block_normal, Post.block_pan, Post.seq_ret, Post.seq_exit, Post.seq_normal, Post.seq_pan]; try simp [-List.reduceReplicate,hk0,hw]))
  refine T_loop ?_
  refine TL_keep [0, 1, 2, 3, 4, 9] ?_
  simp [-List.reduceReplicate, Fr.keep]
  refine TL_ix (fun j => [(0, .ptr 0 0 0 []), (1, .ptr 1 0 0 []), (2, i64 k), (3, .int .u32 (csN j k : Nat)), (4, i64 k), (9, i64 j)]) (fun j => [some (.cells 111 0 [.agg 111 (tabL 0)]), some (.cells 111 0 [.agg 111 (tabL k)])]) 8 (fun _ => True) trivial (fun _ => ?_) (fun j hj _ ih2 => ?_)
  ·refine TL_round ?_
   have hkI : (k : Int) < 256 := by omega
   have hget : (tabL k)[k]? = some (tabF k k) := tabL_get hk
   have hlt : k < (tabL k).length := by rw [tabL_len]; exact hk
   have hset : (tabL k).set k (.int .u32 (csN 8 k : Nat)) = tabL (k + 1) := tabL_set hk
   have hrep : (List.replicate 256 (76 : Nat))[k]? = some 76 := by rw [List.getElem?_replicate, if_pos hk]
   repeat (first | (refine T_seqk fun K hK => ?_) | (refine T_reg tOK rfl ?_; simp [-List.reduceReplicate,hkI,hlt,hset,hwk,hrep]) | (refine T_ret ?_; try simp) | (refine T_skip ?_; try simp) | (refine T_blockk fun K hK => ?_) | (with_reducible apply_assumption -exfalso -symm) | (rw [afterRF_ret]; simp [-List.reduceReplicate,hkI,hlt,hset,hwk,hrep]) | (refine T_exit ?_; try simp) | (refine T_cond_t ?_ ?_; · (simp; done)) | (refine T_cond_f ?_ ?_; · (simp; done)) | (rintro _ _ (_ | _) hz9 <;> first | (simp; done) | (simp at hz9; done)) | (refine And.intro ?_ ?_) | (simp only [Post.block_ret, Post.block_exit, Post.block_normal, Post.block_pan, Post.seq_ret, Post.seq_exit, Post.seq_normal, Post.seq_pan]; try simp [-List.reduceReplicate,hkI,hlt,hset,hwk,hrep]))
   refine TL_keep [0, 1, 4] ?_
   simpa [-List.reduceReplicate, Fr.keep] using ih.down
  ·refine TL_round ?_
   replace ih2 := PLift.up (ih2 trivial)
   have hj0 : decide ((j : Int) < 8) = true := by rw [decide_eq_true_eq]; omega
   have hwj : IntKind.i64.wrap ((j : Int) + 1) = ((j + 1 : Nat) : Int) := by rw [IntWalk.i64_in _ (by omega)]; omega
   have hb := cs_bits (csN_lt (r := k) (by omega) j)
   repeat (first | (refine T_seqk fun K hK => ?_) | (refine T_reg tOK rfl ?_; simp [-List.reduceReplicate,hj0,hwj,hb]) | (refine T_ret ?_; try simp) | (refine T_skip ?_; try simp) | (refine T_blockk fun K hK => ?_) | (with_reducible apply_assumption -exfalso -symm) | (rw [afterRF_ret]; simp [-List.reduceReplicate,hj0,hwj,hb]) | (refine T_exit ?_; try simp) | (refine T_cond_t ?_ ?_; · (simp; done)) | (refine T_cond_f ?_ ?_; · (simp; done)) | (rintro _ _ (_ | _) hz9 <;> first | (simp; done) | (simp at hz9; done)) | (refine And.intro ?_ ?_) | (simp only [Post.block_ret, Post.block_exit, Post.block_normal, Post.block_pan, Post.seq_ret, Post.seq_exit, Post.seq_normal, Post.seq_pan]; try simp [-List.reduceReplicate,hj0,hwj,hb]))
   refine TL_keep [0, 1, 2, 3, 4, 9] ?_
   simpa [-List.reduceReplicate, Fr.keep, csN] using ih2.down
theorem shr32_8 (a : Nat) : (a : Int).fdiv (2 ^ min 8 IntKind.u32.bits) = (a : Int) / 256 := (shr_nat .u32 a 8).trans (by simp [IntKind.bits])
@[simp] theorem notc32 : (if IntKind.u32.signed = true then (-1 : Int) else IntKind.u32.max) = 4294967295 := rfl
theorem pureL_u8 (l : List UInt8) : pureL (u8l l) = true := by
 unfold u8l
 exact pureL_map _ (fun _ => rfl) l
theorem fold_take {α β : Type} (f : β → α → β) (r : β) {l : List α} {k : Nat} {c : α} (h : l[k]? = some c) : (l.take (k + 1)).foldl f r = f ((l.take k).foldl f r) c := by
 rw [List.take_add_one, h]; simp [List.foldl_append]
theorem wrap8 (n : Nat) : IntKind.u8.wrap (n : Int) = (n : Int) % 256 := IntKind.wrap_u8 _
theorem C_more {s : Nat} {l : List UInt8} (hs : s < 4294967296) (hl : l.length < 1000000000) (h : R (.ret (.int .u32 (crcM s l : Nat))) σ) : C tE 81 [.int .u32 s, u8s l] σ R := by
 have hll : (u8l l).length = l.length := by simp [u8l]
 have h0 : bits .xor .u32 4294967295 (s : Int) = ((4294967295 ^^^ s : Nat) : Int) := xor32 (a := 4294967295) (by decide) hs
 have hr0 : 4294967295 ^^^ s < 4294967296 := Nat.xor_lt_two_pow (n := 32) (by decide) hs
 refine C_pure tOK (by simp [u8s, pureL_u8]) ?_
 unfold u8s
 refine C_bodyk tOK Tryz.func81 rfl (Nat.le_of_ble_eq_true rfl) fun K hK => ?_; simp
 repeat (first | (refine T_seqk fun K hK => ?_) | (refine T_reg tOK rfl ?_; simp [-List.reduceReplicate,h0,hll]) | (refine T_ret ?_; try simp) | (refine T_skip ?_; try simp) | (refine T_blockk fun K hK => ?_) | (with_reducible apply_assumption -exfalso -symm) | (rw [afterRF_ret]; simp [-List.reduceReplicate,h0,hll]) | (refine T_exit ?_; try simp) | (refine T_cond_t ?_ ?_; · (simp; done)) | (refine T_cond_f ?_ ?_; · (simp; done)) | (rintro _ _ (_ | _) hz9 <;> first | (simp; done) | (simp at hz9; done)) | (refine And.intro ?_ ?_) | (simp only [Post.block_ret, Post.block_exit, Post.block_normal, Post.block_pan, Post.seq_ret, Post.seq_exit, Post.seq_normal, Post.seq_pan]; try simp [-List.reduceReplicate,h0,hll]) | (refine C_table ?_; simp [-List.reduceReplicate,h0,hll]))
 refine T_loop ?_
 refine TL_keep [5, 6, 12, 13, 14] ?_
 simp [-List.reduceReplicate, Fr.keep,h0]
 refine TL_ix (fun k => [(5, .ptr 0 0 0 []), (6, .int .u32 ((l.take k).foldl crcStep (4294967295 ^^^ s) : Nat)), (12, .lit (u8l l)), (13, i64 l.length), (14, i64 k)]) (fun k => [some (.cells 111 0 [.agg 111 (tabL 256)])]) l.length (fun _ => True) trivial (fun _ => ?_) (fun k hk _ ih => ?_)
 ·refine TL_round ?_
  have hfin : bits .xor .u32 4294967295 ((l.foldl crcStep (4294967295 ^^^ s) : Nat) : Int) = (crcM s l : Nat) := xor32 (a := 4294967295) (by decide) (fold_lt l hr0)
  repeat (first | (refine T_seqk fun K hK => ?_) | (refine T_reg tOK rfl ?_; simp [-List.reduceReplicate,List.take_length,hfin]) | (refine T_ret ?_; try simp) | (refine T_skip ?_; try simp) | (refine T_blockk fun K hK => ?_) | (with_reducible apply_assumption -exfalso -symm) | (rw [afterRF_ret]; simp [-List.reduceReplicate,List.take_length,hfin]) | (refine T_exit ?_; try simp) | (refine T_cond_t ?_ ?_; · (simp; done)) | (refine T_cond_f ?_ ?_; · (simp; done)) | (rintro _ _ (_ | _) hz9 <;> first | (simp; done) | (simp at hz9; done)) | (refine And.intro ?_ ?_) | (simp only [Post.block_ret, Post.block_exit, Post.block_normal, Post.block_pan, Post.seq_ret, Post.seq_exit, Post.seq_normal, Post.seq_pan]; try simp [-List.reduceReplicate,List.take_length,hfin]))
 ·refine TL_round ?_
  replace ih := PLift.up (ih trivial)
  have hk0 : decide (k < l.length) = true := by simpa using hk
  have hwk : IntKind.i64.wrap ((k : Int) + 1) = ((k + 1 : Nat) : Int) := by rw [IntWalk.i64_in _ (by omega)]; omega
  have hlk : l[k]? = some l[k] := List.getElem?_eq_getElem hk
  have hel : (u8l l)[k]? = some (.int .u8 (l[k]).toNat) := by simp [u8l, hlk]
  have hlt : k < (u8l l).length := by omega
  have hel2 := get_of hel hlt
  have hfo := fold_take crcStep (4294967295 ^^^ s) hlk
  generalize l[k] = c at *
  have hr := fold_lt (l.take k) hr0
  generalize (l.take k).foldl crcStep (4294967295 ^^^ s) = r at *
  have hc := UInt8.toNat_lt c
  have hx8 : bits .xor .u8 ((r : Int) % 256) (c.toNat : Int) = (((r % 256) ^^^ c.toNat : Nat) : Int) := xor8 (a := r % 256) (by omega) (by omega)
  have hix : (r % 256) ^^^ c.toNat < 256 := Nat.xor_lt_two_pow (n := 8) (by omega) (by omega)
  have hget : (tabL 256)[(r % 256) ^^^ c.toNat]? = some (.int .u32 (cs8 ((r % 256) ^^^ c.toNat) : Nat)) := by rw [tabL_get hix]; simp [tabF, hix]
  have hx32 : bits .xor .u32 ((r : Int) / 256) (cs8 ((r % 256) ^^^ c.toNat) : Nat) = (crcStep r c : Nat) := xor32 (a := r / 256) (by omega) (cs8_lt (by omega))
  have hlt2 : (r % 256) ^^^ c.toNat < (tabL 256).length := by rw [tabL_len]; exact hix
  have hget2 := get_of hget hlt2
  have hrep : (List.replicate 256 (76 : Nat))[(r % 256) ^^^ c.toNat]? = some 76 := by rw [List.getElem?_replicate, if_pos hix]
  generalize (r % 256) ^^^ c.toNat = ix at *
  have hixI : (ix : Int) < 256 := by omega
  repeat (first | (refine T_seqk fun K hK => ?_) | (refine T_reg tOK rfl ?_; simp [-List.reduceReplicate,hk0,hwk,hel2,hlt,shr32_8,wrap8,hx8,hixI,hget2,hx32,hlt2,hrep]) | (refine T_ret ?_; try simp) | (refine T_skip ?_; try simp) | (refine T_blockk fun K hK => ?_) | (with_reducible apply_assumption -exfalso -symm) | (rw [afterRF_ret]; simp [-List.reduceReplicate,hk0,hwk,hel2,hlt,shr32_8,wrap8,hx8,hixI,hget2,hx32,hlt2,hrep]) | (refine T_exit ?_; try simp) | (refine T_cond_t ?_ ?_; · (simp; done)) | (refine T_cond_f ?_ ?_; · (simp; done)) | (rintro _ _ (_ | _) hz9 <;> first | (simp; done) | (simp at hz9; done)) | (refine And.intro ?_ ?_) | (simp only [Post.block_ret, Post.block_exit, Post.block_normal, Post.block_pan, Post.seq_ret, Post.seq_exit, Post.seq_normal, Post.seq_pan]; try simp [-List.reduceReplicate,hk0,hwk,hel2,hlt,shr32_8,wrap8,hx8,hixI,hget2,hx32,hlt2,hrep]))
  refine TL_keep [5, 6, 12, 13, 14] ?_
  simpa [-List.reduceReplicate, Fr.keep, hfo] using ih.down
theorem crc_lt (l : List UInt8) : crc l < 4294967296 := crcM_lt (by decide) l
theorem C_of {l : List UInt8} (hl : l.length < 1000000000) (h : R (.ret (.int .u32 (crc l : Nat))) σ) : C tE 53 [u8s l] σ R := by
 refine C_pure tOK (by simp [u8s, pureL_u8]) ?_
 refine C_bodyk tOK Tryz.func53 rfl (Nat.le_of_ble_eq_true rfl) fun K hK => ?_; simp
 repeat (first | (refine T_seqk fun K hK => ?_) | (refine T_reg tOK rfl ?_; simp) | (refine T_ret ?_; try simp) | (refine T_skip ?_; try simp) | (refine T_blockk fun K hK => ?_) | (with_reducible apply_assumption -exfalso -symm) | (rw [afterRF_ret]; simp) | (refine T_exit ?_; try simp) | (refine T_cond_t ?_ ?_; · (simp; done)) | (refine T_cond_f ?_ ?_; · (simp; done)) | (rintro _ _ (_ | _) hz9 <;> first | (simp; done) | (simp at hz9; done)) | (refine And.intro ?_ ?_) | (simp only [Post.block_ret, Post.block_exit, Post.block_normal, Post.block_pan, Post.seq_ret, Post.seq_exit, Post.seq_normal, Post.seq_pan]; try simp) | (refine T_loop (TL_round ?_)) | (refine TL_round ?_))
 refine C_more (s := 0) (by decide) hl ?_
 repeat (first | (refine T_seqk fun K hK => ?_) | (refine T_reg tOK rfl ?_; simp) | (refine T_ret ?_; try simp) | (refine T_skip ?_; try simp) | (refine T_blockk fun K hK => ?_) | (with_reducible apply_assumption -exfalso -symm) | (rw [afterRF_ret]; simp) | (refine T_exit ?_; try simp) | (refine T_cond_t ?_ ?_; · (simp; done)) | (refine T_cond_f ?_ ?_; · (simp; done)) | (rintro _ _ (_ | _) hz9 <;> first | (simp; done) | (simp at hz9; done)) | (refine And.intro ?_ ?_) | (simp only [Post.block_ret, Post.block_exit, Post.block_normal, Post.block_pan, Post.seq_ret, Post.seq_exit, Post.seq_normal, Post.seq_pan]; try simp) | (refine T_loop (TL_round ?_)) | (refine TL_round ?_))
end
end Go.Proofs.YtdplbgfokoajjaaGreat
end
section
set_option linter.unusedVariables false
set_option linter.unusedSimpArgs false
set_option maxRecDepth 20000
namespace Go.Proofs.YtdplbgfokoajjaaGreat
open Go
attribute [local simp] RF_nil RF_cons afterRF_ret nilCmp sop sGuard isCall sCallee Fr.eval Fr.get Fr.put ofConst sLoad sStore sBuiltin Fr.args bodyQ sRes oneOf sBin sInt sUn
attribute [local simp] RD_nil RD_cons noConf clear accAdd Tab.pr Tab.slot foot wid idOf refId Op.operands Call.operands sFieldAddr sNilCheck sLookup keyLit sMapSet sMapDel sLen Store.at Store.new getP setP typeAt fits evalParts sBuildSlice sFill sList sApp sAppend frzRe frz pureB pureL
attribute [local simp] optEval sSlice sIndexAddr xop sClear
def is (l : List Int) : List PV := l.map (.int .i64)
@[simp] theorem all_is {p : PV → Prop} {l : List Int} : (∀ x, x ∈ is l → p x) ↔ ∀ b ∈ l, p (.int .i64 b) := by simp [is]
theorem is_len (l : List Int) : (is l).length = l.length := by simp [is]
theorem pureL_is (l : List Int) : pureL (is l) = true := by
 unfold is
 exact pureL_map _ (fun _ => rfl) l
theorem is_get {l : List Int} {k : Nat} (h : k < l.length) : (is l)[k]? = some (.int .i64 l[k]) := by simp [is, h]
theorem is_fit (l : List Int) : ∀ x ∈ is l, fits tE 2 x = true := fun x hx => by
 obtain ⟨b, _, rfl⟩ := List.mem_map.1 hx; rfl
def inB (n : Int) : Bool := decide (0 ≤ n) && decide (n ≤ 1073741824)
def rises : List Int → Bool
 | [] => true
 | [_] => true
 | a :: b :: l => decide (a < b) && rises (b :: l)
def okL (l : List Int) : Bool := decide (0 < l.length) && decide (l.length ≤ 40) && l.all inB && rises l
section
variable {R : Re → Store → Prop} {σ : Store} {l : List Int} {a b n : Int}
theorem C_bad (h : R (.ret (.bool (!inB n))) σ) : C tE 69 [.int .i64 n] σ R := by
 refine C_pure tOK rfl ?_
 unfold inB at h
 cases h1 : decide (n < 0) with
 | true =>
  have h1' : decide (0 ≤ n) = false := by simp at h1 ⊢; omega
  rw [h1'] at h
  refine C_bodyk tOK Tryz.func69 rfl (Nat.le_of_ble_eq_true rfl) fun K hK => ?_; simp
  repeat (first | (refine T_seqk fun K hK => ?_) | (refine T_reg tOK rfl ?_; simp [h1]) | (refine T_ret ?_; try simp) | (refine T_skip ?_; try simp) | (refine T_blockk fun K hK => ?_) | (with_reducible apply_assumption -exfalso -symm) | (rw [afterRF_ret]; simp [h1]) | (refine T_exit ?_; try simp) | (refine T_cond_t ?_ ?_; · (simp; done)) | (refine T_cond_f ?_ ?_; · (simp; done)) | (rintro _ _ (_ | _) hz9 <;> first | (simp; done) | (simp at hz9; done)) | (refine And.intro ?_ ?_) | (simp only [Post.block_ret, Post.block_exit, Post.block_normal, Post.block_pan, Post.seq_ret, Post.seq_exit, Post.seq_normal, Post.seq_pan]; try simp [h1]) | (refine T_loop (TL_round ?_)) | (refine TL_round ?_))
 | false =>
  have h1' : decide (0 ≤ n) = true := by simp at h1 ⊢; omega
  have h2' : (!decide (n ≤ 1073741824)) = decide (1073741824 < n) := by rw [Bool.eq_iff_iff]; simp
  rw [h1', Bool.true_and, h2'] at h
  refine C_bodyk tOK Tryz.func69 rfl (Nat.le_of_ble_eq_true rfl) fun K hK => ?_; simp
  repeat (first | (refine T_seqk fun K hK => ?_) | (refine T_reg tOK rfl ?_; simp [h1]) | (refine T_ret ?_; try simp) | (refine T_skip ?_; try simp) | (refine T_blockk fun K hK => ?_) | (with_reducible apply_assumption -exfalso -symm) | (rw [afterRF_ret]; simp [h1]) | (refine T_exit ?_; try simp) | (refine T_cond_t ?_ ?_; · (simp; done)) | (refine T_cond_f ?_ ?_; · (simp; done)) | (rintro _ _ (_ | _) hz9 <;> first | (simp; done) | (simp at hz9; done)) | (refine And.intro ?_ ?_) | (simp only [Post.block_ret, Post.block_exit, Post.block_normal, Post.block_pan, Post.seq_ret, Post.seq_exit, Post.seq_normal, Post.seq_pan]; try simp [h1]) | (refine T_loop (TL_round ?_)) | (refine TL_round ?_))
theorem C_less (h : R (.ret (.bool (decide (a < b)))) σ) : C tE 88 [.int .i64 a, .int .i64 b] σ R := by
 refine C_bodyk tOK Tryz.func88 rfl (Nat.le_of_ble_eq_true rfl) fun K hK => ?_; simp
 repeat (first | (refine T_seqk fun K hK => ?_) | (refine T_reg tOK rfl ?_; simp) | (refine T_ret ?_; try simp) | (refine T_skip ?_; try simp) | (refine T_blockk fun K hK => ?_) | (with_reducible apply_assumption -exfalso -symm) | (rw [afterRF_ret]; simp) | (refine T_exit ?_; try simp) | (refine T_cond_t ?_ ?_; · (simp; done)) | (refine T_cond_f ?_ ?_; · (simp; done)) | (rintro _ _ (_ | _) hz9 <;> first | (simp; done) | (simp at hz9; done)) | (refine And.intro ?_ ?_) | (simp only [Post.block_ret, Post.block_exit, Post.block_normal, Post.block_pan, Post.seq_ret, Post.seq_exit, Post.seq_normal, Post.seq_pan]; try simp) | (refine T_loop (TL_round ?_)) | (refine TL_round ?_) | (refine C_bodyk tOK Tryz.func95 rfl (Nat.le_of_ble_eq_true rfl) fun K hK => ?_; simp))
theorem C_idx (hl : l.length < 1000000000) (h : ∀ i : Int, decide (0 ≤ i) = !l.all inB → R (.ret (.int .i64 i)) σ) : C tE 87 [.lit (is l), .fn (.func 69) [] []] σ R := by
 have hll := is_len l
 refine C_pure tOK (by simp [pureL_is]) ?_
 refine C_bodyk tOK Tryz.func87 rfl (Nat.le_of_ble_eq_true rfl) fun K hK => ?_; simp
 repeat (first | (refine T_seqk fun K hK => ?_) | (refine T_reg tOK rfl ?_; simp [hll]) | (refine T_ret ?_; try simp) | (refine T_skip ?_; try simp) | (refine T_blockk fun K hK => ?_) | (with_reducible apply_assumption -exfalso -symm) | (rw [afterRF_ret]; simp [hll]) | (refine T_exit ?_; try simp) | (refine T_cond_t ?_ ?_; · (simp; done)) | (refine T_cond_f ?_ ?_; · (simp; done)) | (rintro _ _ (_ | _) hz9 <;> first | (simp; done) | (simp at hz9; done)) | (refine And.intro ?_ ?_) | (simp only [Post.block_ret, Post.block_exit, Post.block_normal, Post.block_pan, Post.seq_ret, Post.seq_exit, Post.seq_normal, Post.seq_pan]; try simp [hll]))
 refine T_loop ?_
 refine TL_keep [0, 1, 7, 8] ?_
 simp [Fr.keep]
 refine TL_ix (fun k => [(0, .lit (is l)), (1, .fn (.func 69) [] []), (7, i64 l.length), (8, i64 k)]) (fun _ => []) l.length (fun k => (l.take k).all inB = true) (by simp) (fun hp => ?_) (fun k hk hp ih => ?_)
 ·rw [List.take_length] at hp
  refine TL_round ?_
  replace h := h (-1) (by rw [hp]; rfl)
  repeat (first | (refine T_seqk fun K hK => ?_) | (refine T_reg tOK rfl ?_; simp) | (refine T_ret ?_; try simp) | (refine T_skip ?_; try simp) | (refine T_blockk fun K hK => ?_) | (with_reducible apply_assumption -exfalso -symm) | (rw [afterRF_ret]; simp) | (refine T_exit ?_; try simp) | (refine T_cond_t ?_ ?_; · (simp; done)) | (refine T_cond_f ?_ ?_; · (simp; done)) | (rintro _ _ (_ | _) hz9 <;> first | (simp; done) | (simp at hz9; done)) | (refine And.intro ?_ ?_) | (simp only [Post.block_ret, Post.block_exit, Post.block_normal, Post.block_pan, Post.seq_ret, Post.seq_exit, Post.seq_normal, Post.seq_pan]; try simp))
 ·have hk0 : decide (k < l.length) = true := by simpa using hk
  have hwk : IntKind.i64.wrap ((k : Int) + 1) = ((k + 1 : Nat) : Int) := by rw [IntWalk.i64_in _ (by omega)]; omega
  have hlt : k < (is l).length := by omega
  have hek := is_get hk
  have hel := get_of hek hlt
  rw [List.take_add_one, List.all_append, hp, List.getElem?_eq_getElem hk] at ih
  simp at ih
  refine TL_round ?_
  cases hb : inB l[k] with
  | true =>
   have ih := PLift.up (ih hb)
   repeat (first | (refine T_seqk fun K hK => ?_) | (refine T_reg tOK rfl ?_; simp [hk0,hwk,hek,hel,hlt,hll,hb]) | (refine T_ret ?_; try simp) | (refine T_skip ?_; try simp) | (refine T_blockk fun K hK => ?_) | (with_reducible apply_assumption -exfalso -symm) | (rw [afterRF_ret]; simp [hk0,hwk,hek,hel,hlt,hll,hb]) | (refine T_exit ?_; try simp) | (refine T_cond_t ?_ ?_; · (simp; done)) | (refine T_cond_f ?_ ?_; · (simp; done)) | (rintro _ _ (_ | _) hz9 <;> first | (simp; done) | (simp at hz9; done)) | (refine And.intro ?_ ?_) | (simp only [Post.block_ret, Post.block_exit, Post.block_normal, Post.block_pan, Post.seq_ret, Post.seq_exit, Post.seq_normal, Post.seq_pan]; try simp [hk0,hwk,hek,hel,hlt,hll,hb]) | (refine C_bad ?_; simp [hk0,hwk,hek,hel,hlt,hll,hb]))
   refine TL_keep [0, 1, 7, 8] ?_
   simpa [Fr.keep] using ih.down
  | false =>
   clear ih
   replace h := h k (by
    have : l.all inB = false := by
     rw [List.all_eq_false]; exact ⟨l[k], List.getElem_mem hk, by simp [hb]⟩
    rw [this]; simp)
   repeat (first | (refine T_seqk fun K hK => ?_) | (refine T_reg tOK rfl ?_; simp [hk0,hwk,hek,hel,hlt,hll,hb]) | (refine T_ret ?_; try simp) | (refine T_skip ?_; try simp) | (refine T_blockk fun K hK => ?_) | (with_reducible apply_assumption -exfalso -symm) | (rw [afterRF_ret]; simp [hk0,hwk,hek,hel,hlt,hll,hb]) | (refine T_exit ?_; try simp) | (refine T_cond_t ?_ ?_; · (simp; done)) | (refine T_cond_f ?_ ?_; · (simp; done)) | (rintro _ _ (_ | _) hz9 <;> first | (simp; done) | (simp at hz9; done)) | (refine And.intro ?_ ?_) | (simp only [Post.block_ret, Post.block_exit, Post.block_normal, Post.block_pan, Post.seq_ret, Post.seq_exit, Post.seq_normal, Post.seq_pan]; try simp [hk0,hwk,hek,hel,hlt,hll,hb]) | (refine C_bad ?_; simp [hk0,hwk,hek,hel,hlt,hll,hb]))
theorem C_cont (hl : l.length < 1000000000) (h : R (.ret (.bool (!l.all inB))) σ) : C tE 70 [.lit (is l), .fn (.func 69) [] []] σ R := by
 refine C_pure tOK (by simp [pureL_is]) ?_
 refine C_bodyk tOK Tryz.func70 rfl (Nat.le_of_ble_eq_true rfl) fun K hK => ?_; simp
 repeat (first | (refine T_seqk fun K hK => ?_) | (refine T_reg tOK rfl ?_; simp) | (refine T_ret ?_; try simp) | (refine T_skip ?_; try simp) | (refine T_blockk fun K hK => ?_) | (with_reducible apply_assumption -exfalso -symm) | (rw [afterRF_ret]; simp) | (refine T_exit ?_; try simp) | (refine T_cond_t ?_ ?_; · (simp; done)) | (refine T_cond_f ?_ ?_; · (simp; done)) | (rintro _ _ (_ | _) hz9 <;> first | (simp; done) | (simp at hz9; done)) | (refine And.intro ?_ ?_) | (simp only [Post.block_ret, Post.block_exit, Post.block_normal, Post.block_pan, Post.seq_ret, Post.seq_exit, Post.seq_normal, Post.seq_pan]; try simp) | (refine T_loop (TL_round ?_)) | (refine TL_round ?_))
 refine C_idx hl fun i hi => ?_
 rw [← hi] at h
 repeat (first | (refine T_seqk fun K hK => ?_) | (refine T_reg tOK rfl ?_; simp) | (refine T_ret ?_; try simp) | (refine T_skip ?_; try simp) | (refine T_blockk fun K hK => ?_) | (with_reducible apply_assumption -exfalso -symm) | (rw [afterRF_ret]; simp) | (refine T_exit ?_; try simp) | (refine T_cond_t ?_ ?_; · (simp; done)) | (refine T_cond_f ?_ ?_; · (simp; done)) | (rintro _ _ (_ | _) hz9 <;> first | (simp; done) | (simp at hz9; done)) | (refine And.intro ?_ ?_) | (simp only [Post.block_ret, Post.block_exit, Post.block_normal, Post.block_pan, Post.seq_ret, Post.seq_exit, Post.seq_normal, Post.seq_pan]; try simp) | (refine T_loop (TL_round ?_)) | (refine TL_round ?_))
def sortedB (l : List Int) : Bool := (List.range (l.length - 1)).all fun i => decide (l.getD i 0 ≤ l.getD (i + 1) 0)
theorem C_issorted (hl : l.length < 1000000000) (h : R (.ret (.bool (sortedB l))) σ) : C tE 71 [.lit (is l)] σ R := by
 have hll := is_len l
 refine C_pure tOK (by simp [pureL_is]) ?_
 refine C_bodyk tOK Tryz.func71 rfl (Nat.le_of_ble_eq_true rfl) fun K hK => ?_; simp
 have hw0 : IntKind.i64.wrap ((l.length : Int) - 1) = (l.length : Int) - 1 := IntWalk.i64_in _ (by omega)
 repeat (first | (refine T_seqk fun K hK => ?_) | (refine T_reg tOK rfl ?_; simp [hll,hw0]) | (refine T_ret ?_; try simp) | (refine T_skip ?_; try simp) | (refine T_blockk fun K hK => ?_) | (with_reducible apply_assumption -exfalso -symm) | (rw [afterRF_ret]; simp [hll,hw0]) | (refine T_exit ?_; try simp) | (refine T_cond_t ?_ ?_; · (simp; done)) | (refine T_cond_f ?_ ?_; · (simp; done)) | (rintro _ _ (_ | _) hz9 <;> first | (simp; done) | (simp at hz9; done)) | (refine And.intro ?_ ?_) | (simp only [Post.block_ret, Post.block_exit, Post.block_normal, Post.block_pan, Post.seq_ret, Post.seq_exit, Post.seq_normal, Post.seq_pan]; try simp [hll,hw0]) | (refine T_draw tOK tmix [([], 0), ([], 1), ([0, 1], 2), ([0, 1, 2], 3), ([], 4), ([], 5), ([5], 6), ([4, 5, 6], 7), ([4, 5, 6, 7], 8), ([0, 1, 2, 3, 4, 5, 6, 7, 8], 9)] 9 (by decide +kernel) ?_; simp [hll,hw0]))
 refine T_loop ?_
 refine TL_keep [0, 3] ?_
 simp [Fr.keep]
 cases l with
 | nil =>
  refine TL_round ?_
  simp [sortedB] at h
  repeat (first | (refine T_seqk fun K hK => ?_) | (refine T_reg tOK rfl ?_; simp) | (refine T_ret ?_; try simp) | (refine T_skip ?_; try simp) | (refine T_blockk fun K hK => ?_) | (with_reducible apply_assumption -exfalso -symm) | (rw [afterRF_ret]; simp) | (refine T_exit ?_; try simp) | (refine T_cond_t ?_ ?_; · (simp; done)) | (refine T_cond_f ?_ ?_; · (simp; done)) | (rintro _ _ (_ | _) hz9 <;> first | (simp; done) | (simp at hz9; done)) | (refine And.intro ?_ ?_) | (simp only [Post.block_ret, Post.block_exit, Post.block_normal, Post.block_pan, Post.seq_ret, Post.seq_exit, Post.seq_normal, Post.seq_pan]; try simp) | (refine T_draw tOK tmix [([], 0), ([], 1), ([0, 1], 2), ([0, 1, 2], 3), ([], 4), ([], 5), ([5], 6), ([4, 5, 6], 7), ([4, 5, 6, 7], 8), ([0, 1, 2, 3, 4, 5, 6, 7, 8], 9)] 9 (by decide +kernel) ?_; simp))
 | cons x l' =>
 generalize hL : x :: l' = l at *
 have hpos : 0 < l.length := by rw [← hL]; simp
 refine TL_st (l.length - 1) (fun j fr σ => fr = [(0, .lit (is l)), (3, i64 ((l.length - 1 - j : Nat) : Int))] ∧ σ = [] ∧ ∀ i, l.length - 1 - j ≤ i → i < l.length - 1 → l.getD i 0 ≤ l.getD (i + 1) 0) ?_ ?_ ⟨by congr; omega, rfl, fun i h1 h2 => by omega⟩
 ·rintro fr σ ⟨rfl, rfl, hp⟩
  have hs : sortedB l = true := by
   unfold sortedB
   rw [List.all_eq_true]
   intro i hi
   simp only [decide_eq_true_eq]
   exact hp i (by omega) (by simpa using hi)
  rw [hs] at h
  refine TL_round ?_
  repeat (first | (refine T_seqk fun K hK => ?_) | (refine T_reg tOK rfl ?_; simp) | (refine T_ret ?_; try simp) | (refine T_skip ?_; try simp) | (refine T_blockk fun K hK => ?_) | (with_reducible apply_assumption -exfalso -symm) | (rw [afterRF_ret]; simp) | (refine T_exit ?_; try simp) | (refine T_cond_t ?_ ?_; · (simp; done)) | (refine T_cond_f ?_ ?_; · (simp; done)) | (rintro _ _ (_ | _) hz9 <;> first | (simp; done) | (simp at hz9; done)) | (refine And.intro ?_ ?_) | (simp only [Post.block_ret, Post.block_exit, Post.block_normal, Post.block_pan, Post.seq_ret, Post.seq_exit, Post.seq_normal, Post.seq_pan]; try simp) | (refine T_draw tOK tmix [([], 0), ([], 1), ([0, 1], 2), ([0, 1, 2], 3), ([], 4), ([], 5), ([5], 6), ([4, 5, 6], 7), ([4, 5, 6, 7], 8), ([0, 1, 2, 3, 4, 5, 6, 7, 8], 9)] 9 (by decide +kernel) ?_; simp))
 ·rintro k fr σ hk ⟨rfl, rfl, hp⟩ ih
  replace ih := PLift.up ih
  obtain ⟨m, hm⟩ : ∃ m, l.length - 1 - k = m + 1 := ⟨l.length - 1 - k - 1, by omega⟩
  have hm2 : l.length - 1 - (k + 1) = m := by omega
  rw [hm] at hp ⊢
  rw [hm2] at ih
  have g0 : decide (0 < ((m + 1 : Nat) : Int)) = true := by rw [decide_eq_true_eq]; omega
  have hw : IntKind.i64.wrap (((m + 1 : Nat) : Int) - 1) = (m : Int) := by rw [IntWalk.i64_in _ (by omega)]; omega
  have h1 : m + 1 < l.length := by omega
  have h0 : m < l.length := by omega
  have l1 : m + 1 < (is l).length := by omega
  have l0 : m < (is l).length := by omega
  have e1 := get_of (is_get h1) l1
  have e0 := get_of (is_get h0) l0
  have f1 : l.getD (m + 1) 0 = l[m + 1] := by simp [h1]
  have f0 : l.getD m 0 = l[m] := by simp [h0]
  generalize hx1 : l[m + 1] = x1 at *
  generalize hx0 : l[m] = x0 at *
  have hm0 : (0 : Int) ≤ (m : Int) + 1 := by omega
  have hwm : IntKind.i64.wrap (m : Int) = m := IntWalk.i64_in _ (by omega)
  push_cast at g0 hw ⊢
  refine TL_round ?_
  cases hb : decide (x1 < x0) with
  | true =>
   clear ih
   have hs : sortedB l = false := by
    unfold sortedB
    rw [List.all_eq_false]
    refine ⟨m, by simp; omega, ?_⟩
    simp only [decide_eq_true_eq] at hb ⊢
    omega
   rw [hs] at h
   repeat (first | (refine T_seqk fun K hK => ?_) | (refine T_reg tOK rfl ?_; simp [g0,hw,hwm,hm0,l1,l0,e1,e0,hb]) | (refine T_ret ?_; try simp) | (refine T_skip ?_; try simp) | (refine T_blockk fun K hK => ?_) | (with_reducible apply_assumption -exfalso -symm) | (rw [afterRF_ret]; simp [g0,hw,hwm,hm0,l1,l0,e1,e0,hb]) | (refine T_exit ?_; try simp) | (refine T_cond_t ?_ ?_; · (simp; done)) | (refine T_cond_f ?_ ?_; · (simp; done)) | (rintro _ _ (_ | _) hz9 <;> first | (simp; done) | (simp at hz9; done)) | (refine And.intro ?_ ?_) | (simp only [Post.block_ret, Post.block_exit, Post.block_normal, Post.block_pan, Post.seq_ret, Post.seq_exit, Post.seq_normal, Post.seq_pan]; try simp [g0,hw,hwm,hm0,l1,l0,e1,e0,hb]) | (refine T_draw tOK tmix [([], 0), ([], 1), ([0, 1], 2), ([0, 1, 2], 3), ([], 4), ([], 5), ([5], 6), ([4, 5, 6], 7), ([4, 5, 6, 7], 8), ([0, 1, 2, 3, 4, 5, 6, 7, 8], 9)] 9 (by decide +kernel) ?_; simp [g0,hw,hwm,hm0,l1,l0,e1,e0,hb]) | (refine RD_call (rd := []) (fun τ _ => C_less ⟨rfl, rfl⟩) ?_; simp [g0,hw,hwm,hm0,l1,l0,e1,e0,hb]) | (refine C_less ?_; simp [g0,hw,hwm,hm0,l1,l0,e1,e0,hb]))
  | false =>
   repeat (first | (refine T_seqk fun K hK => ?_) | (refine T_reg tOK rfl ?_; simp [g0,hw,hwm,hm0,l1,l0,e1,e0,hb]) | (refine T_ret ?_; try simp) | (refine T_skip ?_; try simp) | (refine T_blockk fun K hK => ?_) | (with_reducible apply_assumption -exfalso -symm) | (rw [afterRF_ret]; simp [g0,hw,hwm,hm0,l1,l0,e1,e0,hb]) | (refine T_exit ?_; try simp) | (refine T_cond_t ?_ ?_; · (simp; done)) | (refine T_cond_f ?_ ?_; · (simp; done)) | (rintro _ _ (_ | _) hz9 <;> first | (simp; done) | (simp at hz9; done)) | (refine And.intro ?_ ?_) | (simp only [Post.block_ret, Post.block_exit, Post.block_normal, Post.block_pan, Post.seq_ret, Post.seq_exit, Post.seq_normal, Post.seq_pan]; try simp [g0,hw,hwm,hm0,l1,l0,e1,e0,hb]) | (refine T_draw tOK tmix [([], 0), ([], 1), ([0, 1], 2), ([0, 1, 2], 3), ([], 4), ([], 5), ([5], 6), ([4, 5, 6], 7), ([4, 5, 6, 7], 8), ([0, 1, 2, 3, 4, 5, 6, 7, 8], 9)] 9 (by decide +kernel) ?_; simp [g0,hw,hwm,hm0,l1,l0,e1,e0,hb]) | (refine RD_call (rd := []) (fun τ _ => C_less ⟨rfl, rfl⟩) ?_; simp [g0,hw,hwm,hm0,l1,l0,e1,e0,hb]) | (refine C_less ?_; simp [g0,hw,hwm,hm0,l1,l0,e1,e0,hb]))
   refine TL_fall 0 [0, 3] (by simp) (by simp [Fr.keep]) (by simp [belowFr, belowB, belowL_of_pure 0 _ (pureL_is l)]) (by simp) rfl (ih.down _ _ ⟨rfl, rfl, fun i h1 h2 => ?_⟩)
   rcases Nat.lt_or_ge m i with h3 | h3
   ·exact hp i (by omega) h2
   ·have : i = m := by omega
    subst this
    rw [f0, f1]; simpa using hb
theorem C_clone64 (hl : l.length < 1000000000) (hne : l ≠ []) (h : R (.ret (.ref σ.length 1 0 l.length)) (σ ++ [some (.cells 2 1 (is l))])) : C tE 73 [.lit (is l)] σ R := by
 obtain ⟨x, l', rfl⟩ : ∃ x l', l = x :: l' := by
  cases l with
  | nil => exact absurd rfl hne
  | cons x l' => exact ⟨x, l', rfl⟩
 have hl' : (2 * (l'.length + 1) + 1000) * 8 ≤ 281474976710656 := by simp at hl; omega
 have hft := is_fit (x :: l')
 simp only [is, List.map_cons, List.mem_cons, forall_eq_or_imp, List.length_cons] at h hft
 unfold is
 refine C_bodyk tOK Tryz.func73 rfl (Nat.le_of_ble_eq_true rfl) fun K hK => ?_; simp
 repeat (first | (refine T_seqk fun K hK => ?_) | (refine T_reg tOK rfl ?_; simp [hl']) | (refine T_ret ?_; try simp) | (refine T_skip ?_; try simp) | (refine T_blockk fun K hK => ?_) | (with_reducible apply_assumption -exfalso -symm) | (rw [afterRF_ret]; simp [hl']) | (refine T_exit ?_; try simp) | (refine T_cond_t ?_ ?_; · (simp; done)) | (refine T_cond_f ?_ ?_; · (simp; done)) | (rintro _ _ (_ | _) hz9 <;> first | (simp; done) | (simp at hz9; done)) | (refine And.intro ?_ ?_) | (simp only [Post.block_ret, Post.block_exit, Post.block_normal, Post.block_pan, Post.seq_ret, Post.seq_exit, Post.seq_normal, Post.seq_pan]; try simp [hl']) | (refine T_loop (TL_round ?_)) | (refine TL_round ?_))
def noAdj (l : List Int) (k : Nat) : Prop := ∀ i, i + 1 < k → l.getD (i + 1) 0 ≠ l.getD i 0
theorem C_compact {g : Nat} (hl : l.length < 1000000000) (h1 : noAdj l l.length → R (.ret (.ref 0 g 0 l.length)) [some (.cells 2 g (is l))])
  (h2 : ∀ k ys, k < l.length → ys.length = l.length → ¬ noAdj l l.length → R (.ret (.ref 0 g 0 k)) [some (.cells 2 g (is ys))]) : C tE 72 [.ref 0 g 0 l.length] [some (.cells 2 g (is l))] R := by
 have hll := is_len l
 cases h0 : decide ((l.length : Int) < 2) with
 | true =>
  replace h1 := h1 (fun i hi => by simp at h0; omega)
  clear h2
  refine C_bodyk tOK Tryz.func72 rfl (Nat.le_of_ble_eq_true rfl) fun K hK => ?_; simp
  repeat (first | (refine T_seqk fun K hK => ?_) | (refine T_reg tOK rfl ?_; simp [h0]) | (refine T_ret ?_; try simp) | (refine T_skip ?_; try simp) | (refine T_blockk fun K hK => ?_) | (with_reducible apply_assumption -exfalso -symm) | (rw [afterRF_ret]; simp [h0]) | (refine T_exit ?_; try simp) | (refine T_cond_t ?_ ?_; · (simp; done)) | (refine T_cond_f ?_ ?_; · (simp; done)) | (rintro _ _ (_ | _) hz9 <;> first | (simp; done) | (simp at hz9; done)) | (refine And.intro ?_ ?_) | (simp only [Post.block_ret, Post.block_exit, Post.block_normal, Post.block_pan, Post.seq_ret, Post.seq_exit, Post.seq_normal, Post.seq_pan]; try simp [h0]) | (refine T_draw tOK tmix [([], 0), ([], 1), ([0, 1], 2), ([0, 1, 2], 3), ([], 4), ([], 5), ([5], 6), ([4, 5, 6], 7), ([4, 5, 6, 7], 8), ([0, 1, 2, 3, 4, 5, 6, 7, 8], 9)] 9 (by decide +kernel) ?_; simp [h0]) | (refine T_draw tOK tmix [([], 0), ([], 1), ([0, 1], 2), ([0, 1, 2], 3), ([], 4), ([], 5), ([5], 6), ([4, 5, 6], 7), ([4, 5, 6, 7], 8), ([0, 1, 2, 3, 4, 5, 6, 7, 8], 9)] 9 (by decide +kernel) ?_; simp [h0]))
 | false =>
  refine C_bodyk tOK Tryz.func72 rfl (Nat.le_of_ble_eq_true rfl) fun K hK => ?_; simp
  repeat (first | (refine T_seqk fun K hK => ?_) | (refine T_reg tOK rfl ?_; simp [h0]) | (refine T_ret ?_; try simp) | (refine T_skip ?_; try simp) | (refine T_blockk fun K hK => ?_) | (with_reducible apply_assumption -exfalso -symm) | (rw [afterRF_ret]; simp [h0]) | (refine T_exit ?_; try simp) | (refine T_cond_t ?_ ?_; · (simp; done)) | (refine T_cond_f ?_ ?_; · (simp; done)) | (rintro _ _ (_ | _) hz9 <;> first | (simp; done) | (simp at hz9; done)) | (refine And.intro ?_ ?_) | (simp only [Post.block_ret, Post.block_exit, Post.block_normal, Post.block_pan, Post.seq_ret, Post.seq_exit, Post.seq_normal, Post.seq_pan]; try simp [h0]) | (refine T_draw tOK tmix [([], 0), ([], 1), ([0, 1], 2), ([0, 1, 2], 3), ([], 4), ([], 5), ([5], 6), ([4, 5, 6], 7), ([4, 5, 6, 7], 8), ([0, 1, 2, 3, 4, 5, 6, 7, 8], 9)] 9 (by decide +kernel) ?_; simp [h0]) | (refine T_draw tOK tmix [([], 0), ([], 1), ([0, 1], 2), ([0, 1, 2], 3), ([], 4), ([], 5), ([5], 6), ([4, 5, 6], 7), ([4, 5, 6, 7], 8), ([0, 1, 2, 3, 4, 5, 6, 7, 8], 9)] 9 (by decide +kernel) ?_; simp [h0]))
  have hlen2 : 2 ≤ l.length := by simp at h0; omega
  refine T_loop ?_
  refine TL_keep [0, 3] ?_
  simp [Fr.keep]
  refine TL_st (l.length - 1) (fun j fr σ => fr = [(0, .ref 0 g 0 l.length), (3, i64 ((j + 1 : Nat) : Int))] ∧ σ = [some (.cells 2 g (is l))] ∧ noAdj l (j + 1)) ?_ ?_ ⟨rfl, rfl, fun i hi => by omega⟩
  ·rintro fr σ ⟨rfl, rfl, hp⟩
   rw [show l.length - 1 + 1 = l.length by omega] at hp ⊢
   replace h1 := h1 hp
   clear h2
   refine TL_round ?_
   repeat (first | (refine T_seqk fun K hK => ?_) | (refine T_reg tOK rfl ?_; simp [h0]) | (refine T_ret ?_; try simp) | (refine T_skip ?_; try simp) | (refine T_blockk fun K hK => ?_) | (with_reducible apply_assumption -exfalso -symm) | (rw [afterRF_ret]; simp [h0]) | (refine T_exit ?_; try simp) | (refine T_cond_t ?_ ?_; · (simp; done)) | (refine T_cond_f ?_ ?_; · (simp; done)) | (rintro _ _ (_ | _) hz9 <;> first | (simp; done) | (simp at hz9; done)) | (refine And.intro ?_ ?_) | (simp only [Post.block_ret, Post.block_exit, Post.block_normal, Post.block_pan, Post.seq_ret, Post.seq_exit, Post.seq_normal, Post.seq_pan]; try simp [h0]) | (refine T_draw tOK tmix [([], 0), ([], 1), ([0, 1], 2), ([0, 1, 2], 3), ([], 4), ([], 5), ([5], 6), ([4, 5, 6], 7), ([4, 5, 6, 7], 8), ([0, 1, 2, 3, 4, 5, 6, 7, 8], 9)] 9 (by decide +kernel) ?_; simp [h0]) | (refine T_draw tOK tmix [([], 0), ([], 1), ([0, 1], 2), ([0, 1, 2], 3), ([], 4), ([], 5), ([5], 6), ([4, 5, 6], 7), ([4, 5, 6, 7], 8), ([0, 1, 2, 3, 4, 5, 6, 7, 8], 9)] 9 (by decide +kernel) ?_; simp [h0]))
  ·rintro j fr σ hj ⟨rfl, rfl, hp⟩ ih
   have hk : j + 1 < l.length := by omega
   have hk' : j < l.length := by omega
   have g0 : decide ((j + 1 : Int) < l.length) = true := by rw [decide_eq_true_eq]; omega
   have hw : IntKind.i64.wrap ((j : Int) + 1 - 1) = (j : Int) := by rw [IntWalk.i64_in _ (by omega)]; omega
   have hw2 : IntKind.i64.wrap ((j : Int) + 1 + 1) = (j : Int) + 1 + 1 := by rw [IntWalk.i64_in _ (by omega)]
   have e1 := is_get hk
   have e0 := is_get hk'
   have l1 : j + 1 < (is l).length := by omega
   have l0 : j < (is l).length := by omega
   have e1' := get_of e1 l1
   have e0' := get_of e0 l0
   have b1 : (j : Int) + 1 < l.length := by omega
   have b0 : (j : Int) < l.length := by omega
   have b2 : (0 : Int) ≤ (j : Int) + 1 := by omega
   have hwj : IntKind.i64.wrap (j : Int) = j := IntWalk.i64_in _ (by omega)
   refine TL_round ?_
   cases hb : (l[j + 1] == l[j]) with
   | true =>
    clear ih h1
    have hadj : ¬ noAdj l l.length := fun hn => by
     have := hn j (by omega)
     simp [hk, hk'] at this hb
     exact this hb
    replace h2 : ∀ k ys, k < l.length → ys.length = l.length → R (.ret (.ref 0 g 0 k)) [some (.cells 2 g (is ys))] := fun k ys a1 a2 => h2 k ys a1 a2 hadj
    clear hadj hp
    obtain ⟨m, hm⟩ : ∃ m, l.length = j + 1 + m + 1 := ⟨l.length - (j + 1) - 1, by omega⟩
    have b3 : (j : Int) + 1 ≤ l.length := by omega
    have b4 : ((l.length : Int) - ((j : Int) + 1)).toNat = m + 1 := by omega
    repeat (first | (refine T_seqk fun K hK => ?_) | (refine T_reg tOK rfl ?_; simp [hll,g0,hw,hwj,hw2,e1,e0,e1',e0',l1,l0,hb,b0,b1,b2,hk,hk',b3,b4]) | (refine T_ret ?_; try simp) | (refine T_skip ?_; try simp) | (refine T_blockk fun K hK => ?_) | (with_reducible apply_assumption -exfalso -symm) | (rw [afterRF_ret]; simp [hll,g0,hw,hwj,hw2,e1,e0,e1',e0',l1,l0,hb,b0,b1,b2,hk,hk',b3,b4]) | (refine T_exit ?_; try simp) | (refine T_cond_t ?_ ?_; · (simp; done)) | (refine T_cond_f ?_ ?_; · (simp; done)) | (rintro _ _ (_ | _) hz9 <;> first | (simp; done) | (simp at hz9; done)) | (refine And.intro ?_ ?_) | (simp only [Post.block_ret, Post.block_exit, Post.block_normal, Post.block_pan, Post.seq_ret, Post.seq_exit, Post.seq_normal, Post.seq_pan]; try simp [hll,g0,hw,hwj,hw2,e1,e0,e1',e0',l1,l0,hb,b0,b1,b2,hk,hk',b3,b4]) | (refine T_draw tOK tmix [([], 0), ([], 1), ([0, 1], 2), ([0, 1, 2], 3), ([], 4), ([], 5), ([5], 6), ([4, 5, 6], 7), ([4, 5, 6, 7], 8), ([0, 1, 2, 3, 4, 5, 6, 7, 8], 9)] 9 (by decide +kernel) ?_; simp [hll,g0,hw,hwj,hw2,e1,e0,e1',e0',l1,l0,hb,b0,b1,b2,hk,hk',b3,b4]) | (refine T_draw tOK tmix [([], 0), ([], 1), ([0, 1], 2), ([0, 1, 2], 3), ([], 4), ([], 5), ([5], 6), ([4, 5, 6], 7), ([4, 5, 6, 7], 8), ([0, 1, 2, 3, 4, 5, 6, 7, 8], 9)] 9 (by decide +kernel) ?_; simp [hll,g0,hw,hwj,hw2,e1,e0,e1',e0',l1,l0,hb,b0,b1,b2,hk,hk',b3,b4]))
    clear g0 hw hw2 e1 e0 e1' e0' l1 l0 hb b1 b0 b2 hwj b3 b4
    refine T_loop ?_
    refine TL_fall (fr' := [(0, .ref 0 g 0 l.length), (3, i64 ((j + 1 : Nat) : Int)), (4, .ref 0 g (j + 1) (m + 1)), (5, i64 1)]) (σ' := [some (.cells 2 g (is l))]) 1 [0, 3, 4, 5] (by simp) (by simp [Fr.keep]) (by simp [belowFr, belowB]) (by simp) (by simp [belowStore, belowBlk, belowL_of_pure 1 _ (pureL_is l)]) ?_
    refine TL_st m (fun i fr σ => ∃ (kk : Nat) (ys : List Int), fr = [(0, .ref 0 g 0 l.length), (3, i64 kk), (4, .ref 0 g (j + 1) (m + 1)), (5, i64 ((i + 1 : Nat) : Int))] ∧ σ = [some (.cells 2 g (is ys))] ∧ ys.length = l.length ∧ j + 1 ≤ kk ∧ kk ≤ j + 1 + i) ?_ ?_ ⟨j + 1, l, by simp, rfl, rfl, by omega, by omega⟩
    ·rintro fr σ ⟨kk, ys, rfl, rfl, hys, hk1, hk2⟩
     have hly := is_len ys
     have c1 : (0 : Int) ≤ kk := by omega
     have c2 : kk ≤ l.length := by omega
     have c2' : (kk : Int) ≤ l.length := by omega
     have c3 : ((l.length : Int) - kk).toNat = l.length - kk := by omega
     have c4 : kk + (l.length - kk) = l.length := by omega
     have hz : (is ys).take kk ++ List.replicate (l.length - kk) (.int .i64 0) = is (ys.take kk ++ List.replicate (l.length - kk) 0) := by simp [is]
     have hz2 : (is ys).drop l.length = [] := List.drop_eq_nil_of_le (by omega)
     replace h2 := h2 kk (ys.take kk ++ List.replicate (l.length - kk) 0) (by omega) (by simp; omega)
     refine TL_round ?_
     repeat (first | (refine T_seqk fun K hK => ?_) | (refine T_reg tOK rfl ?_; simp [hly,hys,c2,c2',c3,c4,hz,hz2]) | (refine T_ret ?_; try simp) | (refine T_skip ?_; try simp) | (refine T_blockk fun K hK => ?_) | (with_reducible apply_assumption -exfalso -symm) | (rw [afterRF_ret]; simp [hly,hys,c2,c2',c3,c4,hz,hz2]) | (refine T_exit ?_; try simp) | (refine T_cond_t ?_ ?_; · (simp; done)) | (refine T_cond_f ?_ ?_; · (simp; done)) | (rintro _ _ (_ | _) hz9 <;> first | (simp; done) | (simp at hz9; done)) | (refine And.intro ?_ ?_) | (simp only [Post.block_ret, Post.block_exit, Post.block_normal, Post.block_pan, Post.seq_ret, Post.seq_exit, Post.seq_normal, Post.seq_pan]; try simp [hly,hys,c2,c2',c3,c4,hz,hz2]) | (refine T_draw tOK tmix [([], 0), ([], 1), ([0, 1], 2), ([0, 1, 2], 3), ([], 4), ([], 5), ([5], 6), ([4, 5, 6], 7), ([4, 5, 6, 7], 8), ([0, 1, 2, 3, 4, 5, 6, 7, 8], 9)] 9 (by decide +kernel) ?_; simp [hly,hys,c2,c2',c3,c4,hz,hz2]) | (refine T_draw tOK tmix [([], 0), ([], 1), ([0, 1], 2), ([0, 1, 2], 3), ([], 4), ([], 5), ([5], 6), ([4, 5, 6], 7), ([4, 5, 6, 7], 8), ([0, 1, 2, 3, 4, 5, 6, 7, 8], 9)] 9 (by decide +kernel) ?_; simp [hly,hys,c2,c2',c3,c4,hz,hz2]))
    ·rintro i fr σ hi ⟨kk, ys, rfl, rfl, hys, hk1, hk2⟩ ih
     have hly := is_len ys
     have a1 : j + 1 + (i + 1) < ys.length := by omega
     have a0 : j + 1 + i < ys.length := by omega
     have ak : kk < ys.length := by omega
     have e1 := is_get a1
     have e0 := is_get a0
     have l1 : j + 1 + (i + 1) < (is ys).length := by omega
     have l0 : j + 1 + i < (is ys).length := by omega
     have e1' := get_of e1 l1
     have e0' := get_of e0 l0
     have b1 : (i : Int) + 1 < (m : Int) + 1 := by omega
     have b0 : (i : Int) < (m : Int) + 1 := by omega
     have b2 : (0 : Int) ≤ (i : Int) + 1 := by omega
     have g0 : decide ((i : Int) + 1 < (m : Int) + 1) = true := by rw [decide_eq_true_eq]; omega
     have hw : IntKind.i64.wrap ((i : Int) + 1 - 1) = (i : Int) := by rw [IntWalk.i64_in _ (by omega)]; omega
     have hw2 : IntKind.i64.wrap ((i : Int) + 1 + 1) = (i : Int) + 1 + 1 := by rw [IntWalk.i64_in _ (by omega)]
     have hwi : IntKind.i64.wrap (i : Int) = i := IntWalk.i64_in _ (by omega)
     have hs1 : j + 1 + (m + 1) ≤ l.length := by omega
     have ak' : kk < l.length := by omega
     have hwk : IntKind.i64.wrap ((kk : Int) + 1) = (kk : Int) + 1 := by rw [IntWalk.i64_in _ (by omega)]
     have hset : (is ys).set kk (.int .i64 ys[j + 1 + (i + 1)]) = is (ys.set kk ys[j + 1 + (i + 1)]) := by simp [is, List.map_set]
     replace ih := PLift.up ih
     clear h2
     refine TL_round ?_
     cases hb : bne ys[j + 1 + (i + 1)] ys[j + 1 + i] with
     | true =>
      repeat (first | (refine T_seqk fun K hK => ?_) | (refine T_reg tOK rfl ?_; simp [hly,hys,g0,hw,hwi,hw2,e1,e0,e1',e0',l1,l0,hb,b0,b1,b2,a1,a0,hs1,ak,ak',hset,hwk]) | (refine T_ret ?_; try simp) | (refine T_skip ?_; try simp) | (refine T_blockk fun K hK => ?_) | (with_reducible apply_assumption -exfalso -symm) | (rw [afterRF_ret]; simp [hly,hys,g0,hw,hwi,hw2,e1,e0,e1',e0',l1,l0,hb,b0,b1,b2,a1,a0,hs1,ak,ak',hset,hwk]) | (refine T_exit ?_; try simp) | (refine T_cond_t ?_ ?_; · (simp; done)) | (refine T_cond_f ?_ ?_; · (simp; done)) | (rintro _ _ (_ | _) hz9 <;> first | (simp; done) | (simp at hz9; done)) | (refine And.intro ?_ ?_) | (simp only [Post.block_ret, Post.block_exit, Post.block_normal, Post.block_pan, Post.seq_ret, Post.seq_exit, Post.seq_normal, Post.seq_pan]; try simp [hly,hys,g0,hw,hwi,hw2,e1,e0,e1',e0',l1,l0,hb,b0,b1,b2,a1,a0,hs1,ak,ak',hset,hwk]) | (refine T_draw tOK tmix [([], 0), ([], 1), ([0, 1], 2), ([0, 1, 2], 3), ([], 4), ([], 5), ([5], 6), ([4, 5, 6], 7), ([4, 5, 6, 7], 8), ([0, 1, 2, 3, 4, 5, 6, 7, 8], 9)] 9 (by decide +kernel) ?_; simp [hly,hys,g0,hw,hwi,hw2,e1,e0,e1',e0',l1,l0,hb,b0,b1,b2,a1,a0,hs1,ak,ak',hset,hwk]) | (refine T_draw tOK tmix [([], 0), ([], 1), ([0, 1], 2), ([0, 1, 2], 3), ([], 4), ([], 5), ([5], 6), ([4, 5, 6], 7), ([4, 5, 6, 7], 8), ([0, 1, 2, 3, 4, 5, 6, 7, 8], 9)] 9 (by decide +kernel) ?_; simp [hly,hys,g0,hw,hwi,hw2,e1,e0,e1',e0',l1,l0,hb,b0,b1,b2,a1,a0,hs1,ak,ak',hset,hwk]))
      generalize ys[j + 1 + (i + 1)] = y at *
      refine TL_fall (fr' := [(0, .ref 0 g 0 l.length), (3, i64 ((kk + 1 : Nat) : Int)), (4, .ref 0 g (j + 1) (m + 1)), (5, i64 ((i + 1 + 1 : Nat) : Int))]) (σ' := [some (.cells 2 g (is (ys.set kk y)))]) 1 [0, 3, 4, 5] (by simp) (by simp [Fr.keep]) (by simp [belowFr, belowB]) (by simp) (by simp [belowStore, belowBlk, belowL_of_pure 1 _ (pureL_is _)]) (ih.down _ _ ⟨kk + 1, _, rfl, rfl, by simpa using hys, by omega, by omega⟩)
     | false =>
      repeat (first | (refine T_seqk fun K hK => ?_) | (refine T_reg tOK rfl ?_; simp [hly,hys,g0,hw,hwi,hw2,e1,e0,e1',e0',l1,l0,hb,b0,b1,b2,a1,a0,hs1]) | (refine T_ret ?_; try simp) | (refine T_skip ?_; try simp) | (refine T_blockk fun K hK => ?_) | (with_reducible apply_assumption -exfalso -symm) | (rw [afterRF_ret]; simp [hly,hys,g0,hw,hwi,hw2,e1,e0,e1',e0',l1,l0,hb,b0,b1,b2,a1,a0,hs1]) | (refine T_exit ?_; try simp) | (refine T_cond_t ?_ ?_; · (simp; done)) | (refine T_cond_f ?_ ?_; · (simp; done)) | (rintro _ _ (_ | _) hz9 <;> first | (simp; done) | (simp at hz9; done)) | (refine And.intro ?_ ?_) | (simp only [Post.block_ret, Post.block_exit, Post.block_normal, Post.block_pan, Post.seq_ret, Post.seq_exit, Post.seq_normal, Post.seq_pan]; try simp [hly,hys,g0,hw,hwi,hw2,e1,e0,e1',e0',l1,l0,hb,b0,b1,b2,a1,a0,hs1]) | (refine T_draw tOK tmix [([], 0), ([], 1), ([0, 1], 2), ([0, 1, 2], 3), ([], 4), ([], 5), ([5], 6), ([4, 5, 6], 7), ([4, 5, 6, 7], 8), ([0, 1, 2, 3, 4, 5, 6, 7, 8], 9)] 9 (by decide +kernel) ?_; simp [hly,hys,g0,hw,hwi,hw2,e1,e0,e1',e0',l1,l0,hb,b0,b1,b2,a1,a0,hs1]) | (refine T_draw tOK tmix [([], 0), ([], 1), ([0, 1], 2), ([0, 1, 2], 3), ([], 4), ([], 5), ([5], 6), ([4, 5, 6], 7), ([4, 5, 6, 7], 8), ([0, 1, 2, 3, 4, 5, 6, 7, 8], 9)] 9 (by decide +kernel) ?_; simp [hly,hys,g0,hw,hwi,hw2,e1,e0,e1',e0',l1,l0,hb,b0,b1,b2,a1,a0,hs1]))
      refine TL_fall (fr' := [(0, .ref 0 g 0 l.length), (3, i64 kk), (4, .ref 0 g (j + 1) (m + 1)), (5, i64 ((i + 1 + 1 : Nat) : Int))]) (σ' := [some (.cells 2 g (is ys))]) 1 [0, 3, 4, 5] (by simp) (by simp [Fr.keep]) (by simp [belowFr, belowB]) (by simp) (by simp [belowStore, belowBlk, belowL_of_pure 1 _ (pureL_is _)]) (ih.down _ _ ⟨kk, ys, rfl, rfl, hys, by omega, by omega⟩)
   | false =>
    replace ih := PLift.up ih
    clear h2 h1
    repeat (first | (refine T_seqk fun K hK => ?_) | (refine T_reg tOK rfl ?_; simp [hll,g0,hw,hwj,hw2,e1,e0,e1',e0',l1,l0,hb,b0,b1,b2,hk,hk']) | (refine T_ret ?_; try simp) | (refine T_skip ?_; try simp) | (refine T_blockk fun K hK => ?_) | (with_reducible apply_assumption -exfalso -symm) | (rw [afterRF_ret]; simp [hll,g0,hw,hwj,hw2,e1,e0,e1',e0',l1,l0,hb,b0,b1,b2,hk,hk']) | (refine T_exit ?_; try simp) | (refine T_cond_t ?_ ?_; · (simp; done)) | (refine T_cond_f ?_ ?_; · (simp; done)) | (rintro _ _ (_ | _) hz9 <;> first | (simp; done) | (simp at hz9; done)) | (refine And.intro ?_ ?_) | (simp only [Post.block_ret, Post.block_exit, Post.block_normal, Post.block_pan, Post.seq_ret, Post.seq_exit, Post.seq_normal, Post.seq_pan]; try simp [hll,g0,hw,hwj,hw2,e1,e0,e1',e0',l1,l0,hb,b0,b1,b2,hk,hk']) | (refine T_draw tOK tmix [([], 0), ([], 1), ([0, 1], 2), ([0, 1, 2], 3), ([], 4), ([], 5), ([5], 6), ([4, 5, 6], 7), ([4, 5, 6, 7], 8), ([0, 1, 2, 3, 4, 5, 6, 7, 8], 9)] 9 (by decide +kernel) ?_; simp [hll,g0,hw,hwj,hw2,e1,e0,e1',e0',l1,l0,hb,b0,b1,b2,hk,hk']) | (refine T_draw tOK tmix [([], 0), ([], 1), ([0, 1], 2), ([0, 1, 2], 3), ([], 4), ([], 5), ([5], 6), ([4, 5, 6], 7), ([4, 5, 6, 7], 8), ([0, 1, 2, 3, 4, 5, 6, 7, 8], 9)] 9 (by decide +kernel) ?_; simp [hll,g0,hw,hwj,hw2,e1,e0,e1',e0',l1,l0,hb,b0,b1,b2,hk,hk']))
    refine TL_fall (fr' := [(0, .ref 0 g 0 l.length), (3, i64 ((j + 1 + 1 : Nat) : Int))]) (σ' := [some (.cells 2 g (is l))]) 1 [0, 3] (by simp) (by simp [Fr.keep]) (by simp [belowFr, belowB]) (by simp) (by simp [belowStore, belowBlk, belowL_of_pure 1 _ (pureL_is l)]) (ih.down _ _ ⟨rfl, rfl, fun i hi => ?_⟩)
    rcases Nat.lt_or_ge (i + 1) (j + 1) with h | h
    ·exact hp i h
    ·have : i = j := by omega
     subst this
     simp [hk, hk'] at hb ⊢
     exact hb
theorem rises_iff : ∀ {l : List Int}, rises l = true ↔ ∀ i, i + 1 < l.length → l.getD i 0 < l.getD (i + 1) 0
 | [] => by simp [rises]
 | [a] => by simp [rises]
 | a :: b :: l => by
  have ih := rises_iff (l := b :: l)
  simp only [rises, Bool.and_eq_true, decide_eq_true_eq, ih]
  constructor
  ·rintro ⟨h1, h2⟩ i hi
   cases i with
   | zero => simpa using h1
   | succ i => exact h2 i (by simp at hi ⊢; omega)
  ·intro h
   exact ⟨h 0 (by simp), fun i hi => h (i + 1) (by simp at hi ⊢; omega)⟩
theorem rises_of {l : List Int} (h1 : sortedB l = true) (h2 : noAdj l l.length) : rises l = true := rises_iff.2 fun i hi => by
 have := List.all_eq_true.1 h1 i (by simp; omega)
 simp only [decide_eq_true_eq] at this
 have := h2 i hi
 omega
theorem rises_not1 {l : List Int} (h1 : sortedB l = false) : rises l = false := by
 cases h : rises l with
 | false => rfl
 | true =>
  have := rises_iff.1 h
  rw [sortedB, List.all_eq_false] at h1
  obtain ⟨i, hi, h2⟩ := h1
  have := this i (by simp at hi; omega)
  simp only [decide_eq_true_eq] at h2
  omega
theorem rises_not2 {l : List Int} (h1 : ¬ noAdj l l.length) : rises l = false := by
 cases h : rises l with
 | false => rfl
 | true =>
  have := rises_iff.1 h
  exact absurd (fun i hi => by have := this i hi; omega) h1
set_option maxHeartbeats 1000000 in
theorem C_right (hl : l.length < 1000000000) (h : R (.ret (.bool (okL l))) σ) : C tE 38 [.lit (is l)] σ R := by
 have hll := is_len l
 refine C_pure tOK (by simp [pureL_is]) ?_
 unfold okL at h
 cases c1 : decide (0 < l.length) with
 | false =>
  rw [c1] at h
  simp only [Bool.false_and] at h
  refine C_bodyk tOK Tryz.func38 rfl (Nat.le_of_ble_eq_true rfl) fun K hK => ?_; simp
  repeat (first | (refine T_seqk fun K hK => ?_) | (refine T_reg tOK rfl ?_; simp [hll,c1]) | (refine T_ret ?_; try simp) | (refine T_skip ?_; try simp) | (refine T_blockk fun K hK => ?_) | (with_reducible apply_assumption -exfalso -symm) | (rw [afterRF_ret]; simp [hll,c1]) | (refine T_exit ?_; try simp) | (refine T_cond_t ?_ ?_; · (simp; done)) | (refine T_cond_f ?_ ?_; · (simp; done)) | (rintro _ _ (_ | _) hz9 <;> first | (simp; done) | (simp at hz9; done)) | (refine And.intro ?_ ?_) | (simp only [Post.block_ret, Post.block_exit, Post.block_normal, Post.block_pan, Post.seq_ret, Post.seq_exit, Post.seq_normal, Post.seq_pan]; try simp [hll,c1]) | (refine T_loop (TL_round ?_)) | (refine TL_round ?_))
 | true =>
  rw [c1] at h
  cases c2 : decide (l.length ≤ 40) with
  | false =>
   rw [c2] at h
   simp only [Bool.and_false, Bool.false_and] at h
   have c2' : decide ((l.length : Int) ≤ 40) = false := by rw [decide_eq_false_iff_not] at c2 ⊢; omega
   refine C_bodyk tOK Tryz.func38 rfl (Nat.le_of_ble_eq_true rfl) fun K hK => ?_; simp
   repeat (first | (refine T_seqk fun K hK => ?_) | (refine T_reg tOK rfl ?_; simp [hll,c1,c2']) | (refine T_ret ?_; try simp) | (refine T_skip ?_; try simp) | (refine T_blockk fun K hK => ?_) | (with_reducible apply_assumption -exfalso -symm) | (rw [afterRF_ret]; simp [hll,c1,c2']) | (refine T_exit ?_; try simp) | (refine T_cond_t ?_ ?_; · (simp; done)) | (refine T_cond_f ?_ ?_; · (simp; done)) | (rintro _ _ (_ | _) hz9 <;> first | (simp; done) | (simp at hz9; done)) | (refine And.intro ?_ ?_) | (simp only [Post.block_ret, Post.block_exit, Post.block_normal, Post.block_pan, Post.seq_ret, Post.seq_exit, Post.seq_normal, Post.seq_pan]; try simp [hll,c1,c2']) | (refine T_loop (TL_round ?_)) | (refine TL_round ?_))
  | true =>
   rw [c2] at h
   have c2' : decide ((l.length : Int) ≤ 40) = true := by rw [decide_eq_true_eq] at c2 ⊢; omega
   cases c3 : l.all inB with
   | false =>
    rw [c3] at h
    simp only [Bool.and_false, Bool.false_and] at h
    refine C_bodyk tOK Tryz.func38 rfl (Nat.le_of_ble_eq_true rfl) fun K hK => ?_; simp
    repeat (first | (refine T_seqk fun K hK => ?_) | (refine T_reg tOK rfl ?_; simp [hll,c1,c2',c3]) | (refine T_ret ?_; try simp) | (refine T_skip ?_; try simp) | (refine T_blockk fun K hK => ?_) | (with_reducible apply_assumption -exfalso -symm) | (rw [afterRF_ret]; simp [hll,c1,c2',c3]) | (refine T_exit ?_; try simp) | (refine T_cond_t ?_ ?_; · (simp; done)) | (refine T_cond_f ?_ ?_; · (simp; done)) | (rintro _ _ (_ | _) hz9 <;> first | (simp; done) | (simp at hz9; done)) | (refine And.intro ?_ ?_) | (simp only [Post.block_ret, Post.block_exit, Post.block_normal, Post.block_pan, Post.seq_ret, Post.seq_exit, Post.seq_normal, Post.seq_pan]; try simp [hll,c1,c2',c3]) | (refine T_loop (TL_round ?_)) | (refine TL_round ?_))
    refine C_cont hl ?_
    rw [c3]
    repeat (first | (refine T_seqk fun K hK => ?_) | (refine T_reg tOK rfl ?_; simp) | (refine T_ret ?_; try simp) | (refine T_skip ?_; try simp) | (refine T_blockk fun K hK => ?_) | (with_reducible apply_assumption -exfalso -symm) | (rw [afterRF_ret]; simp) | (refine T_exit ?_; try simp) | (refine T_cond_t ?_ ?_; · (simp; done)) | (refine T_cond_f ?_ ?_; · (simp; done)) | (rintro _ _ (_ | _) hz9 <;> first | (simp; done) | (simp at hz9; done)) | (refine And.intro ?_ ?_) | (simp only [Post.block_ret, Post.block_exit, Post.block_normal, Post.block_pan, Post.seq_ret, Post.seq_exit, Post.seq_normal, Post.seq_pan]; try simp) | (refine T_loop (TL_round ?_)) | (refine TL_round ?_))
   | true =>
    rw [c3] at h
    cases c4 : sortedB l with
    | false =>
     rw [rises_not1 c4] at h
     simp only [Bool.and_false] at h
     refine C_bodyk tOK Tryz.func38 rfl (Nat.le_of_ble_eq_true rfl) fun K hK => ?_; simp
     repeat (first | (refine T_seqk fun K hK => ?_) | (refine T_reg tOK rfl ?_; simp [hll,c1,c2',c3]) | (refine T_ret ?_; try simp) | (refine T_skip ?_; try simp) | (refine T_blockk fun K hK => ?_) | (with_reducible apply_assumption -exfalso -symm) | (rw [afterRF_ret]; simp [hll,c1,c2',c3]) | (refine T_exit ?_; try simp) | (refine T_cond_t ?_ ?_; · (simp; done)) | (refine T_cond_f ?_ ?_; · (simp; done)) | (rintro _ _ (_ | _) hz9 <;> first | (simp; done) | (simp at hz9; done)) | (refine And.intro ?_ ?_) | (simp only [Post.block_ret, Post.block_exit, Post.block_normal, Post.block_pan, Post.seq_ret, Post.seq_exit, Post.seq_normal, Post.seq_pan]; try simp [hll,c1,c2',c3]) | (refine T_loop (TL_round ?_)) | (refine TL_round ?_))
     refine C_cont hl ?_
     rw [c3]
     repeat (first | (refine T_seqk fun K hK => ?_) | (refine T_reg tOK rfl ?_; simp) | (refine T_ret ?_; try simp) | (refine T_skip ?_; try simp) | (refine T_blockk fun K hK => ?_) | (with_reducible apply_assumption -exfalso -symm) | (rw [afterRF_ret]; simp) | (refine T_exit ?_; try simp) | (refine T_cond_t ?_ ?_; · (simp; done)) | (refine T_cond_f ?_ ?_; · (simp; done)) | (rintro _ _ (_ | _) hz9 <;> first | (simp; done) | (simp at hz9; done)) | (refine And.intro ?_ ?_) | (simp only [Post.block_ret, Post.block_exit, Post.block_normal, Post.block_pan, Post.seq_ret, Post.seq_exit, Post.seq_normal, Post.seq_pan]; try simp) | (refine T_loop (TL_round ?_)) | (refine TL_round ?_))
     refine C_issorted hl ?_
     rw [c4]
     repeat (first | (refine T_seqk fun K hK => ?_) | (refine T_reg tOK rfl ?_; simp) | (refine T_ret ?_; try simp) | (refine T_skip ?_; try simp) | (refine T_blockk fun K hK => ?_) | (with_reducible apply_assumption -exfalso -symm) | (rw [afterRF_ret]; simp) | (refine T_exit ?_; try simp) | (refine T_cond_t ?_ ?_; · (simp; done)) | (refine T_cond_f ?_ ?_; · (simp; done)) | (rintro _ _ (_ | _) hz9 <;> first | (simp; done) | (simp at hz9; done)) | (refine And.intro ?_ ?_) | (simp only [Post.block_ret, Post.block_exit, Post.block_normal, Post.block_pan, Post.seq_ret, Post.seq_exit, Post.seq_normal, Post.seq_pan]; try simp) | (refine T_loop (TL_round ?_)) | (refine TL_round ?_))
    | true =>
     simp only [Bool.and_self, Bool.true_and] at h
     refine C_bodyk tOK Tryz.func38 rfl (Nat.le_of_ble_eq_true rfl) fun K hK => ?_; simp
     repeat (first | (refine T_seqk fun K hK => ?_) | (refine T_reg tOK rfl ?_; simp [hll,c1,c2',c3]) | (refine T_ret ?_; try simp) | (refine T_skip ?_; try simp) | (refine T_blockk fun K hK => ?_) | (with_reducible apply_assumption -exfalso -symm) | (rw [afterRF_ret]; simp [hll,c1,c2',c3]) | (refine T_exit ?_; try simp) | (refine T_cond_t ?_ ?_; · (simp; done)) | (refine T_cond_f ?_ ?_; · (simp; done)) | (rintro _ _ (_ | _) hz9 <;> first | (simp; done) | (simp at hz9; done)) | (refine And.intro ?_ ?_) | (simp only [Post.block_ret, Post.block_exit, Post.block_normal, Post.block_pan, Post.seq_ret, Post.seq_exit, Post.seq_normal, Post.seq_pan]; try simp [hll,c1,c2',c3]) | (refine T_loop (TL_round ?_)) | (refine TL_round ?_))
     refine C_cont hl ?_
     rw [c3]
     repeat (first | (refine T_seqk fun K hK => ?_) | (refine T_reg tOK rfl ?_; simp) | (refine T_ret ?_; try simp) | (refine T_skip ?_; try simp) | (refine T_blockk fun K hK => ?_) | (with_reducible apply_assumption -exfalso -symm) | (rw [afterRF_ret]; simp) | (refine T_exit ?_; try simp) | (refine T_cond_t ?_ ?_; · (simp; done)) | (refine T_cond_f ?_ ?_; · (simp; done)) | (rintro _ _ (_ | _) hz9 <;> first | (simp; done) | (simp at hz9; done)) | (refine And.intro ?_ ?_) | (simp only [Post.block_ret, Post.block_exit, Post.block_normal, Post.block_pan, Post.seq_ret, Post.seq_exit, Post.seq_normal, Post.seq_pan]; try simp) | (refine T_loop (TL_round ?_)) | (refine TL_round ?_))
     refine C_issorted hl ?_
     rw [c4]
     repeat (first | (refine T_seqk fun K hK => ?_) | (refine T_reg tOK rfl ?_; simp) | (refine T_ret ?_; try simp) | (refine T_skip ?_; try simp) | (refine T_blockk fun K hK => ?_) | (with_reducible apply_assumption -exfalso -symm) | (rw [afterRF_ret]; simp) | (refine T_exit ?_; try simp) | (refine T_cond_t ?_ ?_; · (simp; done)) | (refine T_cond_f ?_ ?_; · (simp; done)) | (rintro _ _ (_ | _) hz9 <;> first | (simp; done) | (simp at hz9; done)) | (refine And.intro ?_ ?_) | (simp only [Post.block_ret, Post.block_exit, Post.block_normal, Post.block_pan, Post.seq_ret, Post.seq_exit, Post.seq_normal, Post.seq_pan]; try simp) | (refine T_loop (TL_round ?_)) | (refine TL_round ?_))
     refine C_clone64 hl (by intro e; subst e; simp at c1) ?_
     repeat (first | (refine T_seqk fun K hK => ?_) | (refine T_reg tOK rfl ?_; simp) | (refine T_ret ?_; try simp) | (refine T_skip ?_; try simp) | (refine T_blockk fun K hK => ?_) | (with_reducible apply_assumption -exfalso -symm) | (rw [afterRF_ret]; simp) | (refine T_exit ?_; try simp) | (refine T_cond_t ?_ ?_; · (simp; done)) | (refine T_cond_f ?_ ?_; · (simp; done)) | (rintro _ _ (_ | _) hz9 <;> first | (simp; done) | (simp at hz9; done)) | (refine And.intro ?_ ?_) | (simp only [Post.block_ret, Post.block_exit, Post.block_normal, Post.block_pan, Post.seq_ret, Post.seq_exit, Post.seq_normal, Post.seq_pan]; try simp) | (refine T_loop (TL_round ?_)) | (refine TL_round ?_))
     refine C_compact hl (fun hn => ?_) (fun k ys hk hy hn => ?_)
     ·rw [rises_of c4 hn] at h
      repeat (first | (refine T_seqk fun K hK => ?_) | (refine T_reg tOK rfl ?_; simp [hll]) | (refine T_ret ?_; try simp) | (refine T_skip ?_; try simp) | (refine T_blockk fun K hK => ?_) | (with_reducible apply_assumption -exfalso -symm) | (rw [afterRF_ret]; simp [hll]) | (refine T_exit ?_; try simp) | (refine T_cond_t ?_ ?_; · (simp; done)) | (refine T_cond_f ?_ ?_; · (simp; done)) | (rintro _ _ (_ | _) hz9 <;> first | (simp; done) | (simp at hz9; done)) | (refine And.intro ?_ ?_) | (simp only [Post.block_ret, Post.block_exit, Post.block_normal, Post.block_pan, Post.seq_ret, Post.seq_exit, Post.seq_normal, Post.seq_pan]; try simp [hll]) | (refine T_loop (TL_round ?_)) | (refine TL_round ?_))
      simpa [hll] using h
     ·rw [rises_not2 hn] at h
      have hne : ((k : Int) == (l.length : Int)) = false := by rw [beq_eq_false_iff_ne]; omega
      clear hn
      repeat (first | (refine T_seqk fun K hK => ?_) | (refine T_reg tOK rfl ?_; simp [hll,hne]) | (refine T_ret ?_; try simp) | (refine T_skip ?_; try simp) | (refine T_blockk fun K hK => ?_) | (with_reducible apply_assumption -exfalso -symm) | (rw [afterRF_ret]; simp [hll,hne]) | (refine T_exit ?_; try simp) | (refine T_cond_t ?_ ?_; · (simp; done)) | (refine T_cond_f ?_ ?_; · (simp; done)) | (rintro _ _ (_ | _) hz9 <;> first | (simp; done) | (simp at hz9; done)) | (refine And.intro ?_ ?_) | (simp only [Post.block_ret, Post.block_exit, Post.block_normal, Post.block_pan, Post.seq_ret, Post.seq_exit, Post.seq_normal, Post.seq_pan]; try simp [hll,hne]) | (refine T_loop (TL_round ?_)) | (refine TL_round ?_))
      simpa [hll,hne] using h
end
def be4 (n : Nat) : List UInt8 := [UInt8.ofNat (n / 16777216), UInt8.ofNat (n / 65536), UInt8.ofNat (n / 256), UInt8.ofNat n]
def rd4 : List UInt8 → Int
 | [a, b, c, d] => (a.toNat : Int) * 16777216 + (b.toNat : Int) * 65536 + (c.toNat : Int) * 256 + d.toNat
 | _ => 0
theorem shr32_16 (a : Nat) : (a : Int).fdiv (2 ^ min 16 IntKind.u32.bits) = (a : Int) / 65536 := (shr_nat .u32 a 16).trans (by simp [IntKind.bits])
theorem shr32_24 (a : Nat) : (a : Int).fdiv (2 ^ min 24 IntKind.u32.bits) = (a : Int) / 16777216 := (shr_nat .u32 a 24).trans (by simp [IntKind.bits])
theorem wrap8d (n d : Nat) : IntKind.u8.wrap ((n : Int) / (d : Int)) = ((UInt8.ofNat (n / d)).toNat : Int) := by
 rw [IntKind.wrap_u8]; simp
theorem w8_24 (n : Nat) : IntKind.u8.wrap ((n : Int) / 16777216) = ((UInt8.ofNat (n / 16777216)).toNat : Int) := wrap8d n 16777216
theorem w8_16 (n : Nat) : IntKind.u8.wrap ((n : Int) / 65536) = ((UInt8.ofNat (n / 65536)).toNat : Int) := wrap8d n 65536
theorem w8_8 (n : Nat) : IntKind.u8.wrap ((n : Int) / 256) = ((UInt8.ofNat (n / 256)).toNat : Int) := wrap8d n 256
theorem wrap8n (n : Nat) : IntKind.u8.wrap (n : Int) = ((UInt8.ofNat n).toNat : Int) := by
 rw [IntKind.wrap_u8]; simp
section
variable {R : Re → Store → Prop} {σ : Store}
theorem C_four {n : Nat} (h : R (.ret (u8s (be4 n))) σ) : C tE 52 [.int .u32 n] σ R := by
 refine C_pure tOK rfl ?_
 refine C_bodyk tOK Tryz.func52 rfl (Nat.le_of_ble_eq_true rfl) fun K hK => ?_; simp
 repeat (first | (refine T_seqk fun K hK => ?_) | (refine T_reg tOK rfl ?_; simp [shr32_8,shr32_16,shr32_24,w8_24,w8_16,w8_8,wrap8n,-UInt8.toNat_ofNat']) | (refine T_ret ?_; try simp) | (refine T_skip ?_; try simp) | (refine T_blockk fun K hK => ?_) | (with_reducible apply_assumption -exfalso -symm) | (rw [afterRF_ret]; simp [shr32_8,shr32_16,shr32_24,w8_24,w8_16,w8_8,wrap8n,-UInt8.toNat_ofNat']) | (refine T_exit ?_; try simp) | (refine T_cond_t ?_ ?_; · (simp; done)) | (refine T_cond_f ?_ ?_; · (simp; done)) | (rintro _ _ (_ | _) hz9 <;> first | (simp; done) | (simp at hz9; done)) | (refine And.intro ?_ ?_) | (simp only [Post.block_ret, Post.block_exit, Post.block_normal, Post.block_pan, Post.seq_ret, Post.seq_exit, Post.seq_normal, Post.seq_pan]; try simp [shr32_8,shr32_16,shr32_24,w8_24,w8_16,w8_8,wrap8n,-UInt8.toNat_ofNat']) | (refine T_loop (TL_round ?_)) | (refine TL_round ?_))
theorem frz_u8 (σ : Store) (n : Nat) {l : List UInt8} : ∀ x ∈ u8l l, frz σ (n + 1) x = some x := fun x hx => by
 obtain ⟨b, _, rfl⟩ := List.mem_map.1 hx; rfl
theorem u8l_len (l : List UInt8) : (u8l l).length = l.length := by simp [u8l]
theorem C_of_ref {b g n : Nat} {l : List UInt8} (hb : Store.at σ b = some (.cells 5 g (u8l l))) (hn : n = l.length) (hl : l.length < 1000000000) (h : R (.ret (.int .u32 (crc l : Nat))) σ) : C tE 53 [.ref b g 0 n] σ R := by
 subst hn
 refine C_lend tOK (args' := [u8s l]) ?_ (C_of hl ⟨rfl, h⟩)
 simp only [List.mapM_cons, List.mapM_nil]
 rw [frz_row (xs := u8l l) hb (by rw [u8l_len]; omega) (frz_u8 _ _)]
 rw [List.drop_zero, List.take_of_length_le (by rw [u8l_len]; exact Nat.le_refl _)]
 rfl
theorem frz_u8row {σ : Store} {b g n : Nat} {l : List UInt8} (hb : Store.at σ b = some (.cells 5 g (u8l l))) (hn : n = l.length) : frz σ 6 (.ref b g 0 n) = some (u8s l) := by
 subst hn
 rw [frz_row (xs := u8l l) hb (by rw [u8l_len]; omega) (frz_u8 _ _)]
 rw [List.drop_zero, List.take_of_length_le (by rw [u8l_len]; exact Nat.le_refl _)]
theorem u8_fitl (l : List UInt8) : ∀ x ∈ u8l l, fits tE 5 x = true := u8_fit' l
def mbody (l : List Int) : List UInt8 := l.flatMap fun n => be4 n.toNat
def mout (l : List Int) : List UInt8 := UInt8.ofNat l.length :: mbody l
def manPut (l : List Int) : List UInt8 := if okL l then mout l ++ be4 (crc (mout l)) else []
theorem be4_len (n : Nat) : (be4 n).length = 4 := rfl
theorem mbody_len (l : List Int) : (mbody l).length = 4 * l.length := by
 induction l with
 | nil => rfl
 | cons x l ih => simp only [mbody, List.flatMap_cons, List.length_append, be4_len, List.length_cons] at ih ⊢; omega
theorem mbody_take {l : List Int} {k : Nat} (h : k < l.length) : mbody (l.take (k + 1)) = mbody (l.take k) ++ be4 (l[k]).toNat := by
 rw [List.take_add_one, List.getElem?_eq_getElem h]; simp only [mbody, List.flatMap_append, Option.toList, List.flatMap_cons, List.flatMap_nil, List.append_nil]
theorem u8l_app (a b : List UInt8) : u8l (a ++ b) = u8l a ++ u8l b := by simp [u8l]
theorem w32 {n : Int} (h : inB n = true) : IntKind.u32.wrap n = ((n.toNat : Nat) : Int) := by
 unfold inB at h
 simp only [Bool.and_eq_true, decide_eq_true_eq] at h
 rw [wraps_u32 _ h.1 (by omega)]; omega
set_option maxHeartbeats 1000000 in
theorem C_put {l : List Int} (hl : l.length < 1000000000) (h : R (.ret (u8s (manPut l))) σ) : C tE 22 [.lit (is l)] σ R := by
 have hll := is_len l
 refine C_pure tOK (by simp [pureL_is]) ?_
 unfold manPut at h
 cases c : okL l with
 | false =>
  rw [c] at h
  refine C_bodyk tOK Tryz.func22 rfl (Nat.le_of_ble_eq_true rfl) fun K hK => ?_; simp
  repeat (first | (refine T_seqk fun K hK => ?_) | (refine T_reg tOK rfl ?_; simp) | (refine T_ret ?_; try simp) | (refine T_skip ?_; try simp) | (refine T_blockk fun K hK => ?_) | (with_reducible apply_assumption -exfalso -symm) | (rw [afterRF_ret]; simp) | (refine T_exit ?_; try simp) | (refine T_cond_t ?_ ?_; · (simp; done)) | (refine T_cond_f ?_ ?_; · (simp; done)) | (rintro _ _ (_ | _) hz9 <;> first | (simp; done) | (simp at hz9; done)) | (refine And.intro ?_ ?_) | (simp only [Post.block_ret, Post.block_exit, Post.block_normal, Post.block_pan, Post.seq_ret, Post.seq_exit, Post.seq_normal, Post.seq_pan]; try simp) | (refine T_loop (TL_round ?_)) | (refine TL_round ?_))
  refine C_right hl ?_
  rw [c]
  repeat (first | (refine T_seqk fun K hK => ?_) | (refine T_reg tOK rfl ?_; simp) | (refine T_ret ?_; try simp) | (refine T_skip ?_; try simp) | (refine T_blockk fun K hK => ?_) | (with_reducible apply_assumption -exfalso -symm) | (rw [afterRF_ret]; simp) | (refine T_exit ?_; try simp) | (refine T_cond_t ?_ ?_; · (simp; done)) | (refine T_cond_f ?_ ?_; · (simp; done)) | (rintro _ _ (_ | _) hz9 <;> first | (simp; done) | (simp at hz9; done)) | (refine And.intro ?_ ?_) | (simp only [Post.block_ret, Post.block_exit, Post.block_normal, Post.block_pan, Post.seq_ret, Post.seq_exit, Post.seq_normal, Post.seq_pan]; try simp) | (refine T_loop (TL_round ?_)) | (refine TL_round ?_))
 | true =>
  rw [c, if_pos rfl] at h
  have hin : l.all inB = true := by unfold okL at c; simp only [Bool.and_eq_true] at c; exact c.1.2
  have h40 : l.length ≤ 40 := by unfold okL at c; simp only [Bool.and_eq_true, decide_eq_true_eq] at c; exact c.1.1.2
  have hw := wrap8n l.length
  refine C_bodyk tOK Tryz.func22 rfl (Nat.le_of_ble_eq_true rfl) fun K hK => ?_; simp
  repeat (first | (refine T_seqk fun K hK => ?_) | (refine T_reg tOK rfl ?_; simp [hll]) | (refine T_ret ?_; try simp) | (refine T_skip ?_; try simp) | (refine T_blockk fun K hK => ?_) | (with_reducible apply_assumption -exfalso -symm) | (rw [afterRF_ret]; simp [hll]) | (refine T_exit ?_; try simp) | (refine T_cond_t ?_ ?_; · (simp; done)) | (refine T_cond_f ?_ ?_; · (simp; done)) | (rintro _ _ (_ | _) hz9 <;> first | (simp; done) | (simp at hz9; done)) | (refine And.intro ?_ ?_) | (simp only [Post.block_ret, Post.block_exit, Post.block_normal, Post.block_pan, Post.seq_ret, Post.seq_exit, Post.seq_normal, Post.seq_pan]; try simp [hll]))
  refine C_right hl ?_
  rw [c]
  repeat (first | (refine T_seqk fun K hK => ?_) | (refine T_reg tOK rfl ?_; simp [hll,hw,-UInt8.toNat_ofNat']) | (refine T_ret ?_; try simp) | (refine T_skip ?_; try simp) | (refine T_blockk fun K hK => ?_) | (with_reducible apply_assumption -exfalso -symm) | (rw [afterRF_ret]; simp [hll,hw,-UInt8.toNat_ofNat']) | (refine T_exit ?_; try simp) | (refine T_cond_t ?_ ?_; · (simp; done)) | (refine T_cond_f ?_ ?_; · (simp; done)) | (rintro _ _ (_ | _) hz9 <;> first | (simp; done) | (simp at hz9; done)) | (refine And.intro ?_ ?_) | (simp only [Post.block_ret, Post.block_exit, Post.block_normal, Post.block_pan, Post.seq_ret, Post.seq_exit, Post.seq_normal, Post.seq_pan]; try simp [hll,hw,-UInt8.toNat_ofNat']))
  refine T_loop ?_
  refine TL_keep [3, 13, 14, 15] ?_
  simp [Fr.keep,-UInt8.toNat_ofNat']
  refine TL_ix (fun k => [(3, .ref 0 k 0 (4 * k + 1)), (13, .lit (is l)), (14, i64 l.length), (15, i64 k)]) (fun k => [some (.cells 5 k (u8l (UInt8.ofNat l.length :: mbody (l.take k))))]) l.length (fun _ => True) trivial (fun _ => ?_) (fun k hk _ ih => ?_)
  ·rw [List.take_length]
   have hml := mbody_len l
   have hol : (UInt8.ofNat l.length :: mbody l).length = 4 * l.length + 1 := by simp [hml]
   have hq : 2 * (4 * l.length + 1 + 4) + 1000 ≤ 281474976710656 := by omega
   have htk : (u8l (mout l)).take (4 * l.length + 1) = u8l (mout l) := List.take_of_length_le (by rw [u8l_len, mout, hol]; exact Nat.le_refl _)
   have hol2 : (u8l (mout l)).length = 4 * l.length + 1 := by rw [u8l_len, mout, hol]
   have hb4 : (u8l (be4 (crc (mout l)))).length = 4 := rfl
   have happ := (u8l_app (mout l) (be4 (crc (mout l)))).symm
   rw [show UInt8.ofNat l.length :: mbody l = mout l from rfl]
   refine TL_round ?_
   repeat (first | (refine T_seqk fun K hK => ?_) | (refine T_reg tOK rfl ?_; simp [hll]) | (refine T_ret ?_; try simp) | (refine T_skip ?_; try simp) | (refine T_blockk fun K hK => ?_) | (with_reducible apply_assumption -exfalso -symm) | (rw [afterRF_ret]; simp [hll]) | (refine T_exit ?_; try simp) | (refine T_cond_t ?_ ?_; · (simp; done)) | (refine T_cond_f ?_ ?_; · (simp; done)) | (rintro _ _ (_ | _) hz9 <;> first | (simp; done) | (simp at hz9; done)) | (refine And.intro ?_ ?_) | (simp only [Post.block_ret, Post.block_exit, Post.block_normal, Post.block_pan, Post.seq_ret, Post.seq_exit, Post.seq_normal, Post.seq_pan]; try simp [hll]))
   refine C_of_ref (l := mout l) rfl (by rw [mout, hol]) (by rw [mout, hol]; omega) ?_
   repeat (first | (refine T_seqk fun K hK => ?_) | (refine T_reg tOK rfl ?_; simp [hll]) | (refine T_ret ?_; try simp) | (refine T_skip ?_; try simp) | (refine T_blockk fun K hK => ?_) | (with_reducible apply_assumption -exfalso -symm) | (rw [afterRF_ret]; simp [hll]) | (refine T_exit ?_; try simp) | (refine T_cond_t ?_ ?_; · (simp; done)) | (refine T_cond_f ?_ ?_; · (simp; done)) | (rintro _ _ (_ | _) hz9 <;> first | (simp; done) | (simp at hz9; done)) | (refine And.intro ?_ ?_) | (simp only [Post.block_ret, Post.block_exit, Post.block_normal, Post.block_pan, Post.seq_ret, Post.seq_exit, Post.seq_normal, Post.seq_pan]; try simp [hll]))
   refine C_four ?_
   repeat (first | (refine T_seqk fun K hK => ?_) | (refine T_reg tOK rfl ?_; simp [hq,htk,hol2,hb4,happ]) | (refine T_ret ?_; try simp) | (refine T_skip ?_; try simp) | (refine T_blockk fun K hK => ?_) | (with_reducible apply_assumption -exfalso -symm) | (rw [afterRF_ret]; simp [hq,htk,hol2,hb4,happ]) | (refine T_exit ?_; try simp) | (refine T_cond_t ?_ ?_; · (simp; done)) | (refine T_cond_f ?_ ?_; · (simp; done)) | (rintro _ _ (_ | _) hz9 <;> first | (simp; done) | (simp at hz9; done)) | (refine And.intro ?_ ?_) | (simp only [Post.block_ret, Post.block_exit, Post.block_normal, Post.block_pan, Post.seq_ret, Post.seq_exit, Post.seq_normal, Post.seq_pan]; try simp [hq,htk,hol2,hb4,happ]))
   have hfr := frz_u8row (σ := [some (.cells 5 (l.length + 1) (u8l (mout l ++ be4 (crc (mout l)))))]) (b := 0) (n := 4 * l.length + 1 + 4) rfl (by rw [List.length_append, be4_len, mout, hol])
   rw [frzRe, hfr]
   exact h
  ·replace ih := PLift.up (ih trivial)
   have hk0 : decide (k < l.length) = true := by simpa using hk
   have hwk : IntKind.i64.wrap ((k : Int) + 1) = ((k + 1 : Nat) : Int) := by rw [IntWalk.i64_in _ (by omega)]; omega
   have hek := is_get hk
   have hlt : k < (is l).length := by omega
   have hel := get_of hek hlt
   have hb := mbody_take hk
   have hmem := w32 (List.all_eq_true.1 hin l[k] (List.getElem_mem hk))
   have hlen := mbody_len (l.take k)
   rw [List.length_take, Nat.min_eq_left (by omega)] at hlen
   have hx0 : 0 ≤ l[k] := by
    have := List.all_eq_true.1 hin l[k] (List.getElem_mem hk)
    simp only [inB, Bool.and_eq_true, decide_eq_true_eq] at this; exact this.1
   obtain ⟨x, hx⟩ := Int.eq_ofNat_of_zero_le hx0
   rw [hx] at hb hmem hel hek
   simp only [Int.toNat_natCast] at hb hmem
   have hq : 2 * (4 * k + 1 + 4) + 1000 ≤ 281474976710656 := by omega
   have happ := u8l_app (UInt8.ofNat l.length :: mbody (l.take k)) (be4 x)
   have hol2 : (u8l (UInt8.ofNat l.length :: mbody (l.take k))).length = 4 * k + 1 := by rw [u8l_len, List.length_cons, hlen]
   have htk : (u8l (UInt8.ofNat l.length :: mbody (l.take k))).take (4 * k + 1) = u8l (UInt8.ofNat l.length :: mbody (l.take k)) := List.take_of_length_le (by rw [hol2]; exact Nat.le_refl _)
   have hb4 : (u8l (be4 x)).length = 4 := rfl
   rw [List.cons_append, ← hb] at happ
   replace happ := happ.symm
   generalize hX : mbody (l.take k) = X at *
   refine TL_round ?_
   repeat (first | (refine T_seqk fun K hK => ?_) | (refine T_reg tOK rfl ?_; simp [hll,hk0,hwk,hek,hel,hlt,hmem,hq,hol2,htk,hb4,happ]) | (refine T_ret ?_; try simp) | (refine T_skip ?_; try simp) | (refine T_blockk fun K hK => ?_) | (with_reducible apply_assumption -exfalso -symm) | (rw [afterRF_ret]; simp [hll,hk0,hwk,hek,hel,hlt,hmem,hq,hol2,htk,hb4,happ]) | (refine T_exit ?_; try simp) | (refine T_cond_t ?_ ?_; · (simp; done)) | (refine T_cond_f ?_ ?_; · (simp; done)) | (rintro _ _ (_ | _) hz9 <;> first | (simp; done) | (simp at hz9; done)) | (refine And.intro ?_ ?_) | (simp only [Post.block_ret, Post.block_exit, Post.block_normal, Post.block_pan, Post.seq_ret, Post.seq_exit, Post.seq_normal, Post.seq_pan]; try simp [hll,hk0,hwk,hek,hel,hlt,hmem,hq,hol2,htk,hb4,happ]) | (refine C_four ?_; simp [hll,hk0,hwk,hek,hel,hlt,hmem,hq,hol2,htk,hb4,happ]))
   refine TL_keep [3, 13, 14, 15] ?_
   simpa [Fr.keep, Nat.mul_add, Nat.add_right_comm] using ih.down
end
section
variable {R : Re → Store → Prop} {σ : Store}
theorem C_equal {a b : List UInt8} (ha : a.length < 1000000000) (h : R (.ret (.bool (a == b))) σ) : C tE 54 [u8s a, u8s b] σ R := by
 have hla := u8l_len a
 have hlb := u8l_len b
 refine C_pure tOK (by simp [u8s, pureL_u8]) ?_
 unfold u8s
 cases hn : bne (a.length : Int) (b.length : Int) with
 | true =>
  have : (a == b) = false := by
   rw [beq_eq_false_iff_ne]; rintro rfl; simp at hn
  rw [this] at h
  refine C_bodyk tOK Tryz.func54 rfl (Nat.le_of_ble_eq_true rfl) fun K hK => ?_; simp
  repeat (first | (refine T_seqk fun K hK => ?_) | (refine T_reg tOK rfl ?_; simp [hla,hlb,hn]) | (refine T_ret ?_; try simp) | (refine T_skip ?_; try simp) | (refine T_blockk fun K hK => ?_) | (with_reducible apply_assumption -exfalso -symm) | (rw [afterRF_ret]; simp [hla,hlb,hn]) | (refine T_exit ?_; try simp) | (refine T_cond_t ?_ ?_; · (simp; done)) | (refine T_cond_f ?_ ?_; · (simp; done)) | (rintro _ _ (_ | _) hz9 <;> first | (simp; done) | (simp at hz9; done)) | (refine And.intro ?_ ?_) | (simp only [Post.block_ret, Post.block_exit, Post.block_normal, Post.block_pan, Post.seq_ret, Post.seq_exit, Post.seq_normal, Post.seq_pan]; try simp [hla,hlb,hn]) | (refine T_draw tOK tmix [([], 0), ([], 1), ([0, 1], 2), ([0, 1, 2], 3), ([], 4), ([], 5), ([4, 5], 6), ([4, 5, 6], 7), ([0, 1, 2, 3, 4, 5, 6, 7], 8)] 8 (by decide +kernel) ?_; simp [hla,hlb,hn]))
 | false =>
  have hlen : a.length = b.length := by simp at hn; omega
  refine C_bodyk tOK Tryz.func54 rfl (Nat.le_of_ble_eq_true rfl) fun K hK => ?_; simp
  repeat (first | (refine T_seqk fun K hK => ?_) | (refine T_reg tOK rfl ?_; simp [hla,hlb,hn]) | (refine T_ret ?_; try simp) | (refine T_skip ?_; try simp) | (refine T_blockk fun K hK => ?_) | (with_reducible apply_assumption -exfalso -symm) | (rw [afterRF_ret]; simp [hla,hlb,hn]) | (refine T_exit ?_; try simp) | (refine T_cond_t ?_ ?_; · (simp; done)) | (refine T_cond_f ?_ ?_; · (simp; done)) | (rintro _ _ (_ | _) hz9 <;> first | (simp; done) | (simp at hz9; done)) | (refine And.intro ?_ ?_) | (simp only [Post.block_ret, Post.block_exit, Post.block_normal, Post.block_pan, Post.seq_ret, Post.seq_exit, Post.seq_normal, Post.seq_pan]; try simp [hla,hlb,hn]) | (refine T_draw tOK tmix [([], 0), ([], 1), ([0, 1], 2), ([0, 1, 2], 3), ([], 4), ([], 5), ([4, 5], 6), ([4, 5, 6], 7), ([0, 1, 2, 3, 4, 5, 6, 7], 8)] 8 (by decide +kernel) ?_; simp [hla,hlb,hn]))
  refine T_loop ?_
  refine TL_keep [0, 1, 12, 13] ?_
  simp [Fr.keep]
  refine TL_st a.length (fun k fr σ => fr = [(0, .lit (u8l a)), (1, .lit (u8l b)), (12, i64 a.length), (13, i64 k)] ∧ σ = [] ∧ a.take k = b.take k) ?_ ?_ ⟨rfl, rfl, by simp⟩
  ·rintro fr σ ⟨rfl, rfl, hp⟩
   rw [List.take_length, hlen, List.take_length] at hp
   subst hp
   simp at h
   refine TL_round ?_
   repeat (first | (refine T_seqk fun K hK => ?_) | (refine T_reg tOK rfl ?_; simp) | (refine T_ret ?_; try simp) | (refine T_skip ?_; try simp) | (refine T_blockk fun K hK => ?_) | (with_reducible apply_assumption -exfalso -symm) | (rw [afterRF_ret]; simp) | (refine T_exit ?_; try simp) | (refine T_cond_t ?_ ?_; · (simp; done)) | (refine T_cond_f ?_ ?_; · (simp; done)) | (rintro _ _ (_ | _) hz9 <;> first | (simp; done) | (simp at hz9; done)) | (refine And.intro ?_ ?_) | (simp only [Post.block_ret, Post.block_exit, Post.block_normal, Post.block_pan, Post.seq_ret, Post.seq_exit, Post.seq_normal, Post.seq_pan]; try simp) | (refine T_draw tOK tmix [([], 0), ([], 1), ([0, 1], 2), ([0, 1, 2], 3), ([], 4), ([], 5), ([4, 5], 6), ([4, 5, 6], 7), ([0, 1, 2, 3, 4, 5, 6, 7], 8)] 8 (by decide +kernel) ?_; simp))
  ·rintro k fr σ hk ⟨rfl, rfl, hp⟩ ih
   replace ih := PLift.up ih
   have hkb : k < b.length := by omega
   have hk0 : decide (k < a.length) = true := by simpa using hk
   have hwk : IntKind.i64.wrap ((k : Int) + 1) = ((k + 1 : Nat) : Int) := by rw [IntWalk.i64_in _ (by omega)]; omega
   have ea : (u8l a)[k]? = some (.int .u8 a[k].toNat) := by simp [u8l, hk]
   have eb : (u8l b)[k]? = some (.int .u8 b[k].toNat) := by simp [u8l, hkb]
   have la : k < (u8l a).length := by omega
   have lb : k < (u8l b).length := by omega
   have ea' := get_of ea la
   have eb' := get_of eb lb
   refine TL_round ?_
   cases hb : bne (a[k].toNat : Int) (b[k].toNat : Int) with
   | true =>
    have : (a == b) = false := by
     rw [beq_eq_false_iff_ne]; rintro rfl; simp at hb
    rw [this] at h
    clear ih
    repeat (first | (refine T_seqk fun K hK => ?_) | (refine T_reg tOK rfl ?_; simp [hk0,hwk,ea,eb,ea',eb',la,lb,hb,hla,hlb,hk,hkb]) | (refine T_ret ?_; try simp) | (refine T_skip ?_; try simp) | (refine T_blockk fun K hK => ?_) | (with_reducible apply_assumption -exfalso -symm) | (rw [afterRF_ret]; simp [hk0,hwk,ea,eb,ea',eb',la,lb,hb,hla,hlb,hk,hkb]) | (refine T_exit ?_; try simp) | (refine T_cond_t ?_ ?_; · (simp; done)) | (refine T_cond_f ?_ ?_; · (simp; done)) | (rintro _ _ (_ | _) hz9 <;> first | (simp; done) | (simp at hz9; done)) | (refine And.intro ?_ ?_) | (simp only [Post.block_ret, Post.block_exit, Post.block_normal, Post.block_pan, Post.seq_ret, Post.seq_exit, Post.seq_normal, Post.seq_pan]; try simp [hk0,hwk,ea,eb,ea',eb',la,lb,hb,hla,hlb,hk,hkb]) | (refine T_draw tOK tmix [([], 0), ([], 1), ([0, 1], 2), ([0, 1, 2], 3), ([], 4), ([], 5), ([4, 5], 6), ([4, 5, 6], 7), ([0, 1, 2, 3, 4, 5, 6, 7], 8)] 8 (by decide +kernel) ?_; simp [hk0,hwk,ea,eb,ea',eb',la,lb,hb,hla,hlb,hk,hkb]))
   | false =>
    repeat (first | (refine T_seqk fun K hK => ?_) | (refine T_reg tOK rfl ?_; simp [hk0,hwk,ea,eb,ea',eb',la,lb,hb,hla,hlb,hk,hkb]) | (refine T_ret ?_; try simp) | (refine T_skip ?_; try simp) | (refine T_blockk fun K hK => ?_) | (with_reducible apply_assumption -exfalso -symm) | (rw [afterRF_ret]; simp [hk0,hwk,ea,eb,ea',eb',la,lb,hb,hla,hlb,hk,hkb]) | (refine T_exit ?_; try simp) | (refine T_cond_t ?_ ?_; · (simp; done)) | (refine T_cond_f ?_ ?_; · (simp; done)) | (rintro _ _ (_ | _) hz9 <;> first | (simp; done) | (simp at hz9; done)) | (refine And.intro ?_ ?_) | (simp only [Post.block_ret, Post.block_exit, Post.block_normal, Post.block_pan, Post.seq_ret, Post.seq_exit, Post.seq_normal, Post.seq_pan]; try simp [hk0,hwk,ea,eb,ea',eb',la,lb,hb,hla,hlb,hk,hkb]) | (refine T_draw tOK tmix [([], 0), ([], 1), ([0, 1], 2), ([0, 1, 2], 3), ([], 4), ([], 5), ([4, 5], 6), ([4, 5, 6], 7), ([0, 1, 2, 3, 4, 5, 6, 7], 8)] 8 (by decide +kernel) ?_; simp [hk0,hwk,ea,eb,ea',eb',la,lb,hb,hla,hlb,hk,hkb]))
    refine TL_fall (fr' := [(0, .lit (u8l a)), (1, .lit (u8l b)), (12, i64 a.length), (13, i64 ((k + 1 : Nat) : Int))]) (σ' := []) 0 [0, 1, 12, 13] (by simp) (by simp [Fr.keep]) (by simp [belowFr, belowB, belowL_of_pure 0 _ (pureL_u8 a), belowL_of_pure 0 _ (pureL_u8 b)]) (by simp) rfl (ih.down _ _ ⟨rfl, rfl, ?_⟩)
    have he : a[k] = b[k] := by
     simp at hb
     exact UInt8.toNat_inj.1 (by exact_mod_cast hb)
    rw [List.take_add_one, List.take_add_one, hp, List.getElem?_eq_getElem hk, List.getElem?_eq_getElem hkb, he]
theorem C_chunk {xs : List UInt8} (h : R (.ret (.fn (.func 82) [] [.laddr (u8s xs), .laddr (i64 4)])) σ) : C tE 55 [u8s xs, i64 4] σ R := by
 refine C_new tOK ?_
 unfold u8s
 unfold u8s at h
 refine C_bodyk tOK Tryz.func55 rfl (Nat.le_of_ble_eq_true rfl) fun K hK => ?_; simp
 repeat (first | (refine T_seqk fun K hK => ?_) | (refine T_reg tOK rfl ?_; simp) | (refine T_ret ?_; try simp) | (refine T_skip ?_; try simp) | (refine T_blockk fun K hK => ?_) | (with_reducible apply_assumption -exfalso -symm) | (rw [afterRF_ret]; simp) | (refine T_exit ?_; try simp) | (refine T_cond_t ?_ ?_; · (simp; done)) | (refine T_cond_f ?_ ?_; · (simp; done)) | (rintro _ _ (_ | _) hz9 <;> first | (simp; done) | (simp at hz9; done)) | (refine And.intro ?_ ?_) | (simp only [Post.block_ret, Post.block_exit, Post.block_normal, Post.block_pan, Post.seq_ret, Post.seq_exit, Post.seq_normal, Post.seq_pan]; try simp) | (refine T_loop (TL_round ?_)) | (refine TL_round ?_))
 ·exact .inl (by simp)
 ·have hx : ¬ (σ.length + 1 < σ.length) := by omega
  simpa [frzT, frzN, hx] using h
theorem or_lo {x y : Int} (i : Nat) (hi : i ≤ 32) (hx0 : 0 ≤ x) (hx : x % 2 ^ i = 0) (hx1 : x < 4294967296) (hy0 : 0 ≤ y) (hy : y < 2 ^ i) : bits .or .i64 x y = x + y := by
 have h2 : (2 : Int) ^ i ≤ 2 ^ 32 := by exact_mod_cast Nat.pow_le_pow_right (by decide) hi
 refine bits_join .i64 63 (by decide) (fun n h0 h1 => IntWalk.i64_in _ (by omega)) i x y hx0 hx (by omega) hy0 hy (by omega)
theorem rd4_facts (a1 a2 a3 a4 : UInt8) : IntKind.i64.wrap (a1.toNat : Int) = a1.toNat ∧
  IntKind.i64.wrap (a2.toNat : Int) = a2.toNat ∧
  IntKind.i64.wrap (a3.toNat : Int) = a3.toNat ∧
  IntKind.i64.wrap (a4.toNat : Int) = a4.toNat ∧
  IntKind.i64.wrap ((a1.toNat : Int) * 2 ^ min 24 IntKind.i64.bits) = a1.toNat * 16777216 ∧
  IntKind.i64.wrap ((a2.toNat : Int) * 2 ^ min 16 IntKind.i64.bits) = a2.toNat * 65536 ∧
  IntKind.i64.wrap ((a3.toNat : Int) * 2 ^ min 8 IntKind.i64.bits) = a3.toNat * 256 ∧
  bits .or .i64 ((a1.toNat : Int) * 16777216) ((a2.toNat : Int) * 65536) = a1.toNat * 16777216 + a2.toNat * 65536 ∧
  bits .or .i64 ((a1.toNat : Int) * 16777216 + a2.toNat * 65536) ((a3.toNat : Int) * 256) = a1.toNat * 16777216 + a2.toNat * 65536 + a3.toNat * 256 ∧
  bits .or .i64 ((a1.toNat : Int) * 16777216 + a2.toNat * 65536 + a3.toNat * 256) (a4.toNat : Int) = rd4 [a1, a2, a3, a4] := by
 have t1 := UInt8.toNat_lt a1
 have t2 := UInt8.toNat_lt a2
 have t3 := UInt8.toNat_lt a3
 have t4 := UInt8.toNat_lt a4
 have f1 : IntKind.i64.wrap (a1.toNat : Int) = a1.toNat := IntWalk.i64_in _ (by omega)
 have f2 : IntKind.i64.wrap (a2.toNat : Int) = a2.toNat := IntWalk.i64_in _ (by omega)
 have f3 : IntKind.i64.wrap (a3.toNat : Int) = a3.toNat := IntWalk.i64_in _ (by omega)
 have f4 : IntKind.i64.wrap (a4.toNat : Int) = a4.toNat := IntWalk.i64_in _ (by omega)
 have s1 : IntKind.i64.wrap ((a1.toNat : Int) * 2 ^ min 24 IntKind.i64.bits) = a1.toNat * 16777216 := IntWalk.i64_in ((a1.toNat : Int) * 16777216) (by omega)
 have s2 : IntKind.i64.wrap ((a2.toNat : Int) * 2 ^ min 16 IntKind.i64.bits) = a2.toNat * 65536 := IntWalk.i64_in ((a2.toNat : Int) * 65536) (by omega)
 have s3 : IntKind.i64.wrap ((a3.toNat : Int) * 2 ^ min 8 IntKind.i64.bits) = a3.toNat * 256 := IntWalk.i64_in ((a3.toNat : Int) * 256) (by omega)
 have o1 : bits .or .i64 ((a1.toNat : Int) * 16777216) ((a2.toNat : Int) * 65536) = a1.toNat * 16777216 + a2.toNat * 65536 := or_lo 24 (by decide) (by omega) (by omega) (by omega) (by omega) (by omega)
 have o2 : bits .or .i64 ((a1.toNat : Int) * 16777216 + a2.toNat * 65536) ((a3.toNat : Int) * 256) = a1.toNat * 16777216 + a2.toNat * 65536 + a3.toNat * 256 := or_lo 16 (by decide) (by omega) (by omega) (by omega) (by omega) (by omega)
 have o3 : bits .or .i64 ((a1.toNat : Int) * 16777216 + a2.toNat * 65536 + a3.toNat * 256) (a4.toNat : Int) = rd4 [a1, a2, a3, a4] := or_lo 8 (by decide) (by omega) (by omega) (by omega) (by omega) (by omega)
 exact ⟨f1, f2, f3, f4, s1, s2, s3, o1, o2, o3⟩
def chunks (xs : List UInt8) (n : Nat) : List Int := (List.range n).map fun j => rd4 ((xs.drop (4 * j)).take 4)
theorem chunks_succ (xs : List UInt8) (n : Nat) : chunks xs (n + 1) = chunks xs n ++ [rd4 ((xs.drop (4 * n)).take 4)] := by simp [chunks, List.range_succ]
theorem chunks_len (xs : List UInt8) (n : Nat) : (chunks xs n).length = n := by simp [chunks]
theorem four_of {xs : List UInt8} (h : 4 ≤ xs.length) : ∃ a b c d, xs.take 4 = [a, b, c, d] := by
 match xs, h with
 | a :: b :: c :: d :: _, _ => exact ⟨a, b, c, d, rfl⟩
def manGet (b : List UInt8) : List Int × Int :=
 if b.length = 0 ∨ b.length ≠ 5 + 4 * (b.headD 0).toNat then ([], 12)
 else if be4 (crc (b.take (b.length - 4))) ≠ b.drop (b.length - 4) then ([], 14)
 else if okL (chunks ((b.take (b.length - 4)).drop 1) (b.headD 0).toNat) then (chunks ((b.take (b.length - 4)).drop 1) (b.headD 0).toNat, 0) else ([], 12)
theorem frz_is (σ : Store) (n : Nat) {l : List Int} : ∀ x ∈ is l, frz σ (n + 1) x = some x := fun x hx => by
 obtain ⟨b, _, rfl⟩ := List.mem_map.1 hx; rfl
theorem frz_isrow {σ : Store} {b g n : Nat} {l : List Int} (hb : Store.at σ b = some (.cells 2 g (is l))) (hn : n = l.length) {m : Nat} : frz σ (m + 2) (.ref b g 0 n) = some (.lit (is l)) := by
 subst hn
 rw [frz_row (xs := is l) hb (by rw [is_len]; omega) (frz_is _ _)]
 rw [List.drop_zero, List.take_of_length_le (by rw [is_len]; exact Nat.le_refl _)]
theorem frz_pair {σ : Store} {n : Nat} {a b x y : PV} (h1 : frz σ n a = some x) (h2 : frz σ n b = some y) : frz σ (n + 1) (.tup [a, b]) = some (.tup [x, y]) := by
 simp only [frz, List.mapM_cons, List.mapM_nil, h1, h2]; rfl
theorem C_right_ref {b g n : Nat} {l : List Int} (hb : Store.at σ b = some (.cells 2 g (is l))) (hn : n = l.length) (hl : l.length < 1000000000) (h : R (.ret (.bool (okL l))) σ) : C tE 38 [.ref b g 0 n] σ R := by
 refine C_lend tOK (args' := [.lit (is l)]) ?_ (C_right hl ⟨rfl, h⟩)
 simp only [List.mapM_cons, List.mapM_nil]
 rw [frz_isrow hb hn]; rfl
theorem C_right_nils (h : R (.ret (.bool false)) σ) : C tE 38 [.nils] σ R :=
 C_lend tOK (args' := [.lit (is [])]) rfl (C_right (l := []) (by decide) ⟨rfl, h⟩)
set_option maxHeartbeats 1000000 in
theorem get_round0 {ac bd : Code} (hc : (Tryz.f23.body.bind rfBody) = some (ac, bd)) {a1 a2 a3 a4 : UInt8} {X : Option Blk} {Q : Post} {fr : Fr}
  (h6 : Fr.get fr 6 = some (.lit (u8l [a1, a2, a3, a4]))) (h5 : Fr.get fr 5 = some (.ptr 9 0 0 []))
  (h : ∀ fr, Q .normal fr [none, none, none, none, none, none, none, none, none, some (.cells 23 0 [.ref 44 0 0 1]), X, none, none, none, none, none, none, none, some (.cells 2 0 [.int .i64 (rd4 [a1, a2, a3, a4])]), none, none, none, none, none, none, none, none, none, none, none, none, none, none, none, none, none, none, none, none, none, none, none, none, none, some (.cells 2 0 (is [(rd4 [a1, a2, a3, a4])]))]) :
  T tE 69 18 bd Q fr ([none, none, none, none, none, none, none, none, none, some (.cells 23 0 [.nils]), X] ++ [none, none, none, none, none, none, none]) := by
 obtain ⟨f1, f2, f3, f4, s1, s2, s3, o1, o2, o3⟩ := rd4_facts a1 a2 a3 a4
 simp [Tryz.f23, rfBody] at hc
 obtain ⟨rfl, rfl⟩ := hc
 refine T_blockk fun Q' hQ' => ?_
 refine T_draw tOK tmix [([], 2), ([], 3), ([1], 4), ([1, 2], 5), ([1, 2, 3], 6), ([1, 2, 3, 4], 7), ([], 8), ([6], 9), ([6, 7], 10), ([6, 7, 8], 11), ([6, 7, 8, 9], 12), ([1, 2, 3, 4, 5, 6, 7, 8, 9, 10], 13), ([], 14), ([12], 15), ([12, 13], 16), ([12, 13, 14], 17), ([12, 13, 14, 15], 18), ([1, 2, 3, 4, 5, 6, 7, 8, 9, 10, 11, 12, 13, 14, 15, 16], 19), ([], 20), ([18], 21), ([18, 19], 22), ([18, 19, 20], 23), ([1, 2, 3, 4, 5, 6, 7, 8, 9, 10, 11, 12, 13, 14, 15, 16, 17, 18, 19, 20, 21], 24), ([1, 2, 3, 4, 5, 6, 7, 8, 9, 10, 11, 12, 13, 14, 15, 16, 17, 18, 19, 20, 21, 22], 0), ([0, 1, 2, 3, 4, 5, 6, 7, 8, 9, 10, 11, 12, 13, 14, 15, 16, 17, 18, 19, 20, 21, 22, 23], 1), ([0, 1, 2, 3, 4, 5, 6, 7, 8, 9, 10, 11, 12, 13, 14, 15, 16, 17, 18, 19, 20, 21, 22, 23, 24], 25)] 24 (by decide +kernel) ?_
 simp [h5,h6,u8l,f1,f2,f3,f4,s1,s2,s3,o1,o2,o3]
 exact hQ' _ _ _ (h _)
set_option maxHeartbeats 1000000 in
theorem get_round1 {ac bd : Code} (hc : (Tryz.f23.body.bind rfBody) = some (ac, bd)) {a1 a2 a3 a4 : UInt8} {X : Option Blk} {Q : Post} {fr : Fr}
  (h6 : Fr.get fr 6 = some (.lit (u8l [a1, a2, a3, a4]))) (h5 : Fr.get fr 5 = some (.ptr 9 0 0 [])) {g j : Nat} {y : Int} {L : List Int} (hL : L.length = j) (hj : j < 1000000)
  (h : ∀ fr, Q .normal fr ([none, none, none, none, none, none, none, none, none, some (.cells 23 0 [.ref 44 (g + 1) 0 (j + 1)]), X, none, none, none, none, none, none, none, some (.cells 2 0 [.int .i64 y]), none, none, none, none, none, none, none, none, none, none, none, none, none, none, none, none, none, none, none, none, none, none, none, none, none, some (.cells 2 (g + 1) (is (L ++ [(rd4 [a1, a2, a3, a4])])))] ++ [none, none, none, none, none, none, none, some (.cells 2 0 [.int .i64 (rd4 [a1, a2, a3, a4])]), none, none, none, none, none, none, none, none, none, none, none, none, none, none, none, none, none, none, none, none, none, none, none, none, none])) :
  T tE 69 52 bd Q fr ([none, none, none, none, none, none, none, none, none, some (.cells 23 0 [.ref 44 g 0 j]), X, none, none, none, none, none, none, none, some (.cells 2 0 [.int .i64 y]), none, none, none, none, none, none, none, none, none, none, none, none, none, none, none, none, none, none, none, none, none, none, none, none, none, some (.cells 2 g (is L))] ++ [none, none, none, none, none, none, none]) := by
 obtain ⟨f1, f2, f3, f4, s1, s2, s3, o1, o2, o3⟩ := rd4_facts a1 a2 a3 a4
 simp [Tryz.f23, rfBody] at hc
 obtain ⟨rfl, rfl⟩ := hc
 refine T_blockk fun Q' hQ' => ?_
 refine T_draw tOK tmix [([], 2), ([], 3), ([1], 4), ([1, 2], 5), ([1, 2, 3], 6), ([1, 2, 3, 4], 7), ([], 8), ([6], 9), ([6, 7], 10), ([6, 7, 8], 11), ([6, 7, 8, 9], 12), ([1, 2, 3, 4, 5, 6, 7, 8, 9, 10], 13), ([], 14), ([12], 15), ([12, 13], 16), ([12, 13, 14], 17), ([12, 13, 14, 15], 18), ([1, 2, 3, 4, 5, 6, 7, 8, 9, 10, 11, 12, 13, 14, 15, 16], 19), ([], 20), ([18], 21), ([18, 19], 22), ([18, 19, 20], 23), ([1, 2, 3, 4, 5, 6, 7, 8, 9, 10, 11, 12, 13, 14, 15, 16, 17, 18, 19, 20, 21], 24), ([1, 2, 3, 4, 5, 6, 7, 8, 9, 10, 11, 12, 13, 14, 15, 16, 17, 18, 19, 20, 21, 22], 0), ([0, 1, 2, 3, 4, 5, 6, 7, 8, 9, 10, 11, 12, 13, 14, 15, 16, 17, 18, 19, 20, 21, 22, 23], 1), ([0, 1, 2, 3, 4, 5, 6, 7, 8, 9, 10, 11, 12, 13, 14, 15, 16, 17, 18, 19, 20, 21, 22, 23, 24], 25)] 24 (by decide +kernel) ?_
 have hq : (2 * (j + 1) + 1000) * 8 ≤ 281474976710656 := by omega
 have hl : (is L).length = j := by rw [is_len, hL]
 have hl2 : j ≤ (is L).length := by omega
 have htk : (is L).take j = is L := List.take_of_length_le (by omega)
 have hap : is L ++ [.int .i64 (rd4 [a1, a2, a3, a4])] = is (L ++ [(rd4 [a1, a2, a3, a4])]) := by simp [is]
 simp [h5,h6,u8l,f1,f2,f3,f4,s1,s2,s3,o1,o2,o3,hq,hl,htk,hap,hl2]
 exact hQ' _ _ _ (h _)
set_option maxHeartbeats 2000000 in
theorem C_get {b : List UInt8} (hl : b.length < 1000000000) (h : R (.ret (.tup [.lit (is (manGet b).1), i64 (manGet b).2])) σ) : C tE 23 [u8s b] σ R := by
  have hbl := u8l_len b
  refine C_pure tOK (by simp [u8s, pureL_u8]) ?_
  unfold u8s
  cases b with
  | nil =>
    simp [manGet, is] at h
    refine C_bodyDk tOK Tryz.func23 rfl (Nat.le_of_ble_eq_true rfl) fun K hK => ?_; simp
    refine TZ_seqk fun K1 hK1 => TZ_of_T ?_
    simp
    repeat (first | (refine T_seqk fun K hK => ?_) | (refine T_reg tOK rfl ?_; simp [hbl]) | (refine T_ret ?_; try simp) | (refine T_skip ?_; try simp) | (refine T_blockk fun K hK => ?_) | (with_reducible apply_assumption -exfalso -symm) | (rw [afterRF_ret]; simp [hbl]) | (refine T_exit ?_; try simp) | (refine T_cond_t ?_ ?_; · (simp; done)) | (refine T_cond_f ?_ ?_; · (simp; done)) | (rintro _ _ (_ | _) hz9 <;> first | (simp; done) | (simp at hz9; done)) | (refine And.intro ?_ ?_) | (simp only [Post.block_ret, Post.block_exit, Post.block_normal, Post.block_pan, Post.seq_ret, Post.seq_exit, Post.seq_normal, Post.seq_pan]; try simp [hbl]) | (refine T_draw tOK tmix [([], 0), ([0], 1), ([0, 1], 2), ([], 3), ([], 4), ([4], 5), ([3, 4, 5], 6), ([0, 1, 2, 3, 4, 5, 6], 7), ([0, 1, 2, 3, 4, 5, 6, 7], 8)] 7 (by decide +kernel) ?_; simp [hbl]) | (refine T_draw tOK tmix [([], 2), ([], 3), ([1], 4), ([1, 2], 5), ([1, 2, 3], 6), ([1, 2, 3, 4], 7), ([], 8), ([6], 9), ([6, 7], 10), ([6, 7, 8], 11), ([6, 7, 8, 9], 12), ([1, 2, 3, 4, 5, 6, 7, 8, 9, 10], 13), ([], 14), ([12], 15), ([12, 13], 16), ([12, 13, 14], 17), ([12, 13, 14, 15], 18), ([1, 2, 3, 4, 5, 6, 7, 8, 9, 10, 11, 12, 13, 14, 15, 16], 19), ([], 20), ([18], 21), ([18, 19], 22), ([18, 19, 20], 23), ([1, 2, 3, 4, 5, 6, 7, 8, 9, 10, 11, 12, 13, 14, 15, 16, 17, 18, 19, 20, 21], 24), ([1, 2, 3, 4, 5, 6, 7, 8, 9, 10, 11, 12, 13, 14, 15, 16, 17, 18, 19, 20, 21, 22], 0), ([0, 1, 2, 3, 4, 5, 6, 7, 8, 9, 10, 11, 12, 13, 14, 15, 16, 17, 18, 19, 20, 21, 22, 23], 1), ([0, 1, 2, 3, 4, 5, 6, 7, 8, 9, 10, 11, 12, 13, 14, 15, 16, 17, 18, 19, 20, 21, 22, 23, 24], 25)] 24 (by decide +kernel) ?_; simp [hbl]))
    refine TZ_seqk fun K1 hK1 => TZ_of_T ?_
    simp
    repeat (first | (refine T_seqk fun K hK => ?_) | (refine T_reg tOK rfl ?_; simp [hbl]) | (refine T_ret ?_; try simp) | (refine T_skip ?_; try simp) | (refine T_blockk fun K hK => ?_) | (with_reducible apply_assumption -exfalso -symm) | (rw [afterRF_ret]; simp [hbl]) | (refine T_exit ?_; try simp) | (refine T_cond_t ?_ ?_; · (simp; done)) | (refine T_cond_f ?_ ?_; · (simp; done)) | (rintro _ _ (_ | _) hz9 <;> first | (simp; done) | (simp at hz9; done)) | (refine And.intro ?_ ?_) | (simp only [Post.block_ret, Post.block_exit, Post.block_normal, Post.block_pan, Post.seq_ret, Post.seq_exit, Post.seq_normal, Post.seq_pan]; try simp [hbl]) | (refine T_draw tOK tmix [([], 0), ([0], 1), ([0, 1], 2), ([], 3), ([], 4), ([4], 5), ([3, 4, 5], 6), ([0, 1, 2, 3, 4, 5, 6], 7), ([0, 1, 2, 3, 4, 5, 6, 7], 8)] 7 (by decide +kernel) ?_; simp [hbl]) | (refine T_draw tOK tmix [([], 2), ([], 3), ([1], 4), ([1, 2], 5), ([1, 2, 3], 6), ([1, 2, 3, 4], 7), ([], 8), ([6], 9), ([6, 7], 10), ([6, 7, 8], 11), ([6, 7, 8, 9], 12), ([1, 2, 3, 4, 5, 6, 7, 8, 9, 10], 13), ([], 14), ([12], 15), ([12, 13], 16), ([12, 13, 14], 17), ([12, 13, 14, 15], 18), ([1, 2, 3, 4, 5, 6, 7, 8, 9, 10, 11, 12, 13, 14, 15, 16], 19), ([], 20), ([18], 21), ([18, 19], 22), ([18, 19, 20], 23), ([1, 2, 3, 4, 5, 6, 7, 8, 9, 10, 11, 12, 13, 14, 15, 16, 17, 18, 19, 20, 21], 24), ([1, 2, 3, 4, 5, 6, 7, 8, 9, 10, 11, 12, 13, 14, 15, 16, 17, 18, 19, 20, 21, 22], 0), ([0, 1, 2, 3, 4, 5, 6, 7, 8, 9, 10, 11, 12, 13, 14, 15, 16, 17, 18, 19, 20, 21, 22, 23], 1), ([0, 1, 2, 3, 4, 5, 6, 7, 8, 9, 10, 11, 12, 13, 14, 15, 16, 17, 18, 19, 20, 21, 22, 23, 24], 25)] 24 (by decide +kernel) ?_; simp [hbl]))
  | cons x b' =>
    rw [List.length_cons] at hbl hl
    have hx := UInt8.toNat_lt x
    have w1 : IntKind.i64.wrap (x.toNat : Int) = x.toNat := IntWalk.i64_in _ (by omega)
    have w2 : IntKind.i64.wrap ((x.toNat : Int) + 1) = x.toNat + 1 := IntWalk.i64_in _ (by omega)
    have w3 : IntKind.i64.wrap (4 * ((x.toNat : Int) + 1)) = 4 * ((x.toNat : Int) + 1) := IntWalk.i64_in _ (by omega)
    have w4 : IntKind.i64.wrap (1 + 4 * ((x.toNat : Int) + 1)) = 1 + 4 * ((x.toNat : Int) + 1) := IntWalk.i64_in _ (by omega)
    have hnz : ((b'.length : Int) + 1 == 0) = false := by rw [beq_eq_false_iff_ne]; omega
    have e0 : (u8l (x :: b'))[0]? = some (.int .u8 x.toNat) := rfl
    have l0 : 0 < (u8l (x :: b')).length := by rw [hbl]; omega
    have e0' := get_of e0 l0
    unfold manGet at h
    cases hn : bne ((b'.length : Int) + 1) (1 + 4 * ((x.toNat : Int) + 1)) with
    | true =>
      have : (x :: b').length = 0 ∨ (x :: b').length ≠ 5 + 4 * ((x :: b').headD 0).toNat := by simp at hn ⊢; omega
      rw [if_pos this] at h
      simp [is] at h
      refine C_bodyDk tOK Tryz.func23 rfl (Nat.le_of_ble_eq_true rfl) fun K hK => ?_; simp
      refine TZ_seqk fun K1 hK1 => TZ_of_T ?_
      simp
      repeat (first | (refine T_seqk fun K hK => ?_) | (refine T_reg tOK rfl ?_; simp [hbl]) | (refine T_ret ?_; try simp) | (refine T_skip ?_; try simp) | (refine T_blockk fun K hK => ?_) | (with_reducible apply_assumption -exfalso -symm) | (rw [afterRF_ret]; simp [hbl]) | (refine T_exit ?_; try simp) | (refine T_cond_t ?_ ?_; · (simp; done)) | (refine T_cond_f ?_ ?_; · (simp; done)) | (rintro _ _ (_ | _) hz9 <;> first | (simp; done) | (simp at hz9; done)) | (refine And.intro ?_ ?_) | (simp only [Post.block_ret, Post.block_exit, Post.block_normal, Post.block_pan, Post.seq_ret, Post.seq_exit, Post.seq_normal, Post.seq_pan]; try simp [hbl]) | (refine T_draw tOK tmix [([], 0), ([0], 1), ([0, 1], 2), ([], 3), ([], 4), ([4], 5), ([3, 4, 5], 6), ([0, 1, 2, 3, 4, 5, 6], 7), ([0, 1, 2, 3, 4, 5, 6, 7], 8)] 7 (by decide +kernel) ?_; simp [hbl]) | (refine T_draw tOK tmix [([], 2), ([], 3), ([1], 4), ([1, 2], 5), ([1, 2, 3], 6), ([1, 2, 3, 4], 7), ([], 8), ([6], 9), ([6, 7], 10), ([6, 7, 8], 11), ([6, 7, 8, 9], 12), ([1, 2, 3, 4, 5, 6, 7, 8, 9, 10], 13), ([], 14), ([12], 15), ([12, 13], 16), ([12, 13, 14], 17), ([12, 13, 14, 15], 18), ([1, 2, 3, 4, 5, 6, 7, 8, 9, 10, 11, 12, 13, 14, 15, 16], 19), ([], 20), ([18], 21), ([18, 19], 22), ([18, 19, 20], 23), ([1, 2, 3, 4, 5, 6, 7, 8, 9, 10, 11, 12, 13, 14, 15, 16, 17, 18, 19, 20, 21], 24), ([1, 2, 3, 4, 5, 6, 7, 8, 9, 10, 11, 12, 13, 14, 15, 16, 17, 18, 19, 20, 21, 22], 0), ([0, 1, 2, 3, 4, 5, 6, 7, 8, 9, 10, 11, 12, 13, 14, 15, 16, 17, 18, 19, 20, 21, 22, 23], 1), ([0, 1, 2, 3, 4, 5, 6, 7, 8, 9, 10, 11, 12, 13, 14, 15, 16, 17, 18, 19, 20, 21, 22, 23, 24], 25)] 24 (by decide +kernel) ?_; simp [hbl]))
      refine TZ_seqk fun K1 hK1 => TZ_of_T ?_
      simp
      repeat (first | (refine T_seqk fun K hK => ?_) | (refine T_reg tOK rfl ?_; simp [hbl,hnz,e0,e0',l0,w1,w2,w3,w4,hn]) | (refine T_ret ?_; try simp) | (refine T_skip ?_; try simp) | (refine T_blockk fun K hK => ?_) | (with_reducible apply_assumption -exfalso -symm) | (rw [afterRF_ret]; simp [hbl,hnz,e0,e0',l0,w1,w2,w3,w4,hn]) | (refine T_exit ?_; try simp) | (refine T_cond_t ?_ ?_; · (simp; done)) | (refine T_cond_f ?_ ?_; · (simp; done)) | (rintro _ _ (_ | _) hz9 <;> first | (simp; done) | (simp at hz9; done)) | (refine And.intro ?_ ?_) | (simp only [Post.block_ret, Post.block_exit, Post.block_normal, Post.block_pan, Post.seq_ret, Post.seq_exit, Post.seq_normal, Post.seq_pan]; try simp [hbl,hnz,e0,e0',l0,w1,w2,w3,w4,hn]) | (refine T_draw tOK tmix [([], 0), ([0], 1), ([0, 1], 2), ([], 3), ([], 4), ([4], 5), ([3, 4, 5], 6), ([0, 1, 2, 3, 4, 5, 6], 7), ([0, 1, 2, 3, 4, 5, 6, 7], 8)] 7 (by decide +kernel) ?_; simp [hbl,hnz,e0,e0',l0,w1,w2,w3,w4,hn]) | (refine T_draw tOK tmix [([], 2), ([], 3), ([1], 4), ([1, 2], 5), ([1, 2, 3], 6), ([1, 2, 3, 4], 7), ([], 8), ([6], 9), ([6, 7], 10), ([6, 7, 8], 11), ([6, 7, 8, 9], 12), ([1, 2, 3, 4, 5, 6, 7, 8, 9, 10], 13), ([], 14), ([12], 15), ([12, 13], 16), ([12, 13, 14], 17), ([12, 13, 14, 15], 18), ([1, 2, 3, 4, 5, 6, 7, 8, 9, 10, 11, 12, 13, 14, 15, 16], 19), ([], 20), ([18], 21), ([18, 19], 22), ([18, 19, 20], 23), ([1, 2, 3, 4, 5, 6, 7, 8, 9, 10, 11, 12, 13, 14, 15, 16, 17, 18, 19, 20, 21], 24), ([1, 2, 3, 4, 5, 6, 7, 8, 9, 10, 11, 12, 13, 14, 15, 16, 17, 18, 19, 20, 21, 22], 0), ([0, 1, 2, 3, 4, 5, 6, 7, 8, 9, 10, 11, 12, 13, 14, 15, 16, 17, 18, 19, 20, 21, 22, 23], 1), ([0, 1, 2, 3, 4, 5, 6, 7, 8, 9, 10, 11, 12, 13, 14, 15, 16, 17, 18, 19, 20, 21, 22, 23, 24], 25)] 24 (by decide +kernel) ?_; simp [hbl,hnz,e0,e0',l0,w1,w2,w3,w4,hn]))
    | false =>
      have hlen : b'.length = 4 + 4 * x.toNat := by simp at hn; omega
      have : ¬ ((x :: b').length = 0 ∨ (x :: b').length ≠ 5 + 4 * ((x :: b').headD 0).toNat) := by simp; omega
      rw [if_neg this] at h
      clear this
      have hln : (x :: b').length - 4 = 1 + 4 * x.toNat := by simp; omega
      rw [hln] at h
      have w5 : IntKind.i64.wrap ((b'.length : Int) + 1 - 4) = ((1 + 4 * x.toNat : Nat) : Int) := by rw [IntWalk.i64_in _ (by omega)]; omega
      have tk : (u8l (x :: b')).take (1 + 4 * x.toNat) = u8l ((x :: b').take (1 + 4 * x.toNat)) := by simp [u8l, List.map_take]
      have dr : (u8l (x :: b')).drop (1 + 4 * x.toNat) = u8l ((x :: b').drop (1 + 4 * x.toNat)) := by simp [u8l, List.map_drop]
      have htl : ((x :: b').take (1 + 4 * x.toNat)).length = 1 + 4 * x.toNat := by simp; omega
      generalize hin : (x :: b').take (1 + 4 * x.toNat) = inner at *
      have htl' : (u8l inner).length = 1 + 4 * x.toNat := by rw [u8l_len, htl]
      have q1 : (1 + 4 * x.toNat : Nat) ≤ (u8l (x :: b')).length := by rw [hbl]; omega
      generalize hcs : (x :: b').drop (1 + 4 * x.toNat) = cks at *
      have hhd : ((x :: b').headD 0) = x := rfl
      generalize hF : x :: b' = full at *
      rw [hhd] at h
      push_cast at w5
      have q2 : (1 : Int) + 4 * x.toNat ≤ b'.length + 1 := by omega
      have q3 : ((1 : Int) + 4 * x.toNat).toNat = 1 + 4 * x.toNat := by omega
      have q4 : (0 : Int) ≤ 1 + 4 * x.toNat := by omega
      refine C_bodyDk tOK Tryz.func23 rfl (Nat.le_of_ble_eq_true rfl) fun K hK => ?_; simp
      refine TZ_seqk fun K1 hK1 => TZ_of_T ?_
      simp
      repeat (first | (refine T_seqk fun K hK => ?_) | (refine T_reg tOK rfl ?_; simp [hbl]) | (refine T_ret ?_; try simp) | (refine T_skip ?_; try simp) | (refine T_blockk fun K hK => ?_) | (with_reducible apply_assumption -exfalso -symm) | (rw [afterRF_ret]; simp [hbl]) | (refine T_exit ?_; try simp) | (refine T_cond_t ?_ ?_; · (simp; done)) | (refine T_cond_f ?_ ?_; · (simp; done)) | (rintro _ _ (_ | _) hz9 <;> first | (simp; done) | (simp at hz9; done)) | (refine And.intro ?_ ?_) | (simp only [Post.block_ret, Post.block_exit, Post.block_normal, Post.block_pan, Post.seq_ret, Post.seq_exit, Post.seq_normal, Post.seq_pan]; try simp [hbl]) | (refine T_draw tOK tmix [([], 0), ([0], 1), ([0, 1], 2), ([], 3), ([], 4), ([4], 5), ([3, 4, 5], 6), ([0, 1, 2, 3, 4, 5, 6], 7), ([0, 1, 2, 3, 4, 5, 6, 7], 8)] 7 (by decide +kernel) ?_; simp [hbl]) | (refine T_draw tOK tmix [([], 2), ([], 3), ([1], 4), ([1, 2], 5), ([1, 2, 3], 6), ([1, 2, 3, 4], 7), ([], 8), ([6], 9), ([6, 7], 10), ([6, 7, 8], 11), ([6, 7, 8, 9], 12), ([1, 2, 3, 4, 5, 6, 7, 8, 9, 10], 13), ([], 14), ([12], 15), ([12, 13], 16), ([12, 13, 14], 17), ([12, 13, 14, 15], 18), ([1, 2, 3, 4, 5, 6, 7, 8, 9, 10, 11, 12, 13, 14, 15, 16], 19), ([], 20), ([18], 21), ([18, 19], 22), ([18, 19, 20], 23), ([1, 2, 3, 4, 5, 6, 7, 8, 9, 10, 11, 12, 13, 14, 15, 16, 17, 18, 19, 20, 21], 24), ([1, 2, 3, 4, 5, 6, 7, 8, 9, 10, 11, 12, 13, 14, 15, 16, 17, 18, 19, 20, 21, 22], 0), ([0, 1, 2, 3, 4, 5, 6, 7, 8, 9, 10, 11, 12, 13, 14, 15, 16, 17, 18, 19, 20, 21, 22, 23], 1), ([0, 1, 2, 3, 4, 5, 6, 7, 8, 9, 10, 11, 12, 13, 14, 15, 16, 17, 18, 19, 20, 21, 22, 23, 24], 25)] 24 (by decide +kernel) ?_; simp [hbl]))
      refine TZ_seqk fun K1 hK1 => TZ_of_T ?_
      simp
      repeat (first | (refine T_seqk fun K hK => ?_) | (refine T_reg tOK rfl ?_; simp [hbl,hnz,e0,e0',l0,w1,w2,w3,w4,hn]) | (refine T_ret ?_; try simp) | (refine T_skip ?_; try simp) | (refine T_blockk fun K hK => ?_) | (with_reducible apply_assumption -exfalso -symm) | (rw [afterRF_ret]; simp [hbl,hnz,e0,e0',l0,w1,w2,w3,w4,hn]) | (refine T_exit ?_; try simp) | (refine T_cond_t ?_ ?_; · (simp; done)) | (refine T_cond_f ?_ ?_; · (simp; done)) | (rintro _ _ (_ | _) hz9 <;> first | (simp; done) | (simp at hz9; done)) | (refine And.intro ?_ ?_) | (simp only [Post.block_ret, Post.block_exit, Post.block_normal, Post.block_pan, Post.seq_ret, Post.seq_exit, Post.seq_normal, Post.seq_pan]; try simp [hbl,hnz,e0,e0',l0,w1,w2,w3,w4,hn]) | (refine T_draw tOK tmix [([], 0), ([0], 1), ([0, 1], 2), ([], 3), ([], 4), ([4], 5), ([3, 4, 5], 6), ([0, 1, 2, 3, 4, 5, 6], 7), ([0, 1, 2, 3, 4, 5, 6, 7], 8)] 7 (by decide +kernel) ?_; simp [hbl,hnz,e0,e0',l0,w1,w2,w3,w4,hn]) | (refine T_draw tOK tmix [([], 2), ([], 3), ([1], 4), ([1, 2], 5), ([1, 2, 3], 6), ([1, 2, 3, 4], 7), ([], 8), ([6], 9), ([6, 7], 10), ([6, 7, 8], 11), ([6, 7, 8, 9], 12), ([1, 2, 3, 4, 5, 6, 7, 8, 9, 10], 13), ([], 14), ([12], 15), ([12, 13], 16), ([12, 13, 14], 17), ([12, 13, 14, 15], 18), ([1, 2, 3, 4, 5, 6, 7, 8, 9, 10, 11, 12, 13, 14, 15, 16], 19), ([], 20), ([18], 21), ([18, 19], 22), ([18, 19, 20], 23), ([1, 2, 3, 4, 5, 6, 7, 8, 9, 10, 11, 12, 13, 14, 15, 16, 17, 18, 19, 20, 21], 24), ([1, 2, 3, 4, 5, 6, 7, 8, 9, 10, 11, 12, 13, 14, 15, 16, 17, 18, 19, 20, 21, 22], 0), ([0, 1, 2, 3, 4, 5, 6, 7, 8, 9, 10, 11, 12, 13, 14, 15, 16, 17, 18, 19, 20, 21, 22, 23], 1), ([0, 1, 2, 3, 4, 5, 6, 7, 8, 9, 10, 11, 12, 13, 14, 15, 16, 17, 18, 19, 20, 21, 22, 23, 24], 25)] 24 (by decide +kernel) ?_; simp [hbl,hnz,e0,e0',l0,w1,w2,w3,w4,hn]))
      refine TZ_seqk fun K1 hK1 => TZ_of_T ?_
      simp
      repeat (first | (refine T_seqk fun K hK => ?_) | (refine T_reg tOK rfl ?_; simp [hbl,w5,tk,q1,q2,q3,q4]) | (refine T_ret ?_; try simp) | (refine T_skip ?_; try simp) | (refine T_blockk fun K hK => ?_) | (with_reducible apply_assumption -exfalso -symm) | (rw [afterRF_ret]; simp [hbl,w5,tk,q1,q2,q3,q4]) | (refine T_exit ?_; try simp) | (refine T_cond_t ?_ ?_; · (simp; done)) | (refine T_cond_f ?_ ?_; · (simp; done)) | (rintro _ _ (_ | _) hz9 <;> first | (simp; done) | (simp at hz9; done)) | (refine And.intro ?_ ?_) | (simp only [Post.block_ret, Post.block_exit, Post.block_normal, Post.block_pan, Post.seq_ret, Post.seq_exit, Post.seq_normal, Post.seq_pan]; try simp [hbl,w5,tk,q1,q2,q3,q4]) | (refine T_draw tOK tmix [([], 0), ([0], 1), ([0, 1], 2), ([], 3), ([], 4), ([4], 5), ([3, 4, 5], 6), ([0, 1, 2, 3, 4, 5, 6], 7), ([0, 1, 2, 3, 4, 5, 6, 7], 8)] 7 (by decide +kernel) ?_; simp [hbl,w5,tk,q1,q2,q3,q4]) | (refine T_draw tOK tmix [([], 2), ([], 3), ([1], 4), ([1, 2], 5), ([1, 2, 3], 6), ([1, 2, 3, 4], 7), ([], 8), ([6], 9), ([6, 7], 10), ([6, 7, 8], 11), ([6, 7, 8, 9], 12), ([1, 2, 3, 4, 5, 6, 7, 8, 9, 10], 13), ([], 14), ([12], 15), ([12, 13], 16), ([12, 13, 14], 17), ([12, 13, 14, 15], 18), ([1, 2, 3, 4, 5, 6, 7, 8, 9, 10, 11, 12, 13, 14, 15, 16], 19), ([], 20), ([18], 21), ([18, 19], 22), ([18, 19, 20], 23), ([1, 2, 3, 4, 5, 6, 7, 8, 9, 10, 11, 12, 13, 14, 15, 16, 17, 18, 19, 20, 21], 24), ([1, 2, 3, 4, 5, 6, 7, 8, 9, 10, 11, 12, 13, 14, 15, 16, 17, 18, 19, 20, 21, 22], 0), ([0, 1, 2, 3, 4, 5, 6, 7, 8, 9, 10, 11, 12, 13, 14, 15, 16, 17, 18, 19, 20, 21, 22, 23], 1), ([0, 1, 2, 3, 4, 5, 6, 7, 8, 9, 10, 11, 12, 13, 14, 15, 16, 17, 18, 19, 20, 21, 22, 23, 24], 25)] 24 (by decide +kernel) ?_; simp [hbl,w5,tk,q1,q2,q3,q4]))
      refine TZ_seqk fun K1 hK1 => TZ_of_T ?_
      simp
      have hi1 : inner.length < 1000000000 := by omega
      have hcl : cks.length = 4 := by rw [← hcs, ← hF]; simp; omega
      have q5 : 1 + 4 * x.toNat ≤ b'.length + 1 := by omega
      refine T_seqk fun K hK => ?_
      refine T_draw tOK tmix [([], 0), ([0], 1), ([0, 1], 2), ([], 3), ([], 4), ([4], 5), ([3, 4, 5], 6), ([0, 1, 2, 3, 4, 5, 6], 7), ([0, 1, 2, 3, 4, 5, 6, 7], 8)] 7 (by decide +kernel) ?_
      simp
      refine RD_call (rd := []) (fun τ _ => C_of hi1 ⟨rfl, rfl⟩) ?_
      simp
      refine RD_call (rd := []) (fun τ _ => C_four ⟨rfl, rfl⟩) ?_
      simp [htl',hbl,q2,q3,q4,q5,dr]
      refine C_equal (by simp [be4_len]) ?_
      cases hs : (be4 (crc inner) == cks) with
      | false =>
        have : be4 (crc inner) ≠ cks := by simpa using hs
        rw [if_pos this] at h
        simp [is] at h
        repeat (first | (refine T_seqk fun K hK => ?_) | (refine T_reg tOK rfl ?_; simp [hbl]) | (refine T_ret ?_; try simp) | (refine T_skip ?_; try simp) | (refine T_blockk fun K hK => ?_) | (with_reducible apply_assumption -exfalso -symm) | (rw [afterRF_ret]; simp [hbl]) | (refine T_exit ?_; try simp) | (refine T_cond_t ?_ ?_; · (simp; done)) | (refine T_cond_f ?_ ?_; · (simp; done)) | (rintro _ _ (_ | _) hz9 <;> first | (simp; done) | (simp at hz9; done)) | (refine And.intro ?_ ?_) | (simp only [Post.block_ret, Post.block_exit, Post.block_normal, Post.block_pan, Post.seq_ret, Post.seq_exit, Post.seq_normal, Post.seq_pan]; try simp [hbl]) | (refine T_draw tOK tmix [([], 0), ([0], 1), ([0, 1], 2), ([], 3), ([], 4), ([4], 5), ([3, 4, 5], 6), ([0, 1, 2, 3, 4, 5, 6], 7), ([0, 1, 2, 3, 4, 5, 6, 7], 8)] 7 (by decide +kernel) ?_; simp [hbl]) | (refine T_draw tOK tmix [([], 2), ([], 3), ([1], 4), ([1, 2], 5), ([1, 2, 3], 6), ([1, 2, 3, 4], 7), ([], 8), ([6], 9), ([6, 7], 10), ([6, 7, 8], 11), ([6, 7, 8, 9], 12), ([1, 2, 3, 4, 5, 6, 7, 8, 9, 10], 13), ([], 14), ([12], 15), ([12, 13], 16), ([12, 13, 14], 17), ([12, 13, 14, 15], 18), ([1, 2, 3, 4, 5, 6, 7, 8, 9, 10, 11, 12, 13, 14, 15, 16], 19), ([], 20), ([18], 21), ([18, 19], 22), ([18, 19, 20], 23), ([1, 2, 3, 4, 5, 6, 7, 8, 9, 10, 11, 12, 13, 14, 15, 16, 17, 18, 19, 20, 21], 24), ([1, 2, 3, 4, 5, 6, 7, 8, 9, 10, 11, 12, 13, 14, 15, 16, 17, 18, 19, 20, 21, 22], 0), ([0, 1, 2, 3, 4, 5, 6, 7, 8, 9, 10, 11, 12, 13, 14, 15, 16, 17, 18, 19, 20, 21, 22, 23], 1), ([0, 1, 2, 3, 4, 5, 6, 7, 8, 9, 10, 11, 12, 13, 14, 15, 16, 17, 18, 19, 20, 21, 22, 23, 24], 25)] 24 (by decide +kernel) ?_; simp [hbl]))
      | true =>
        have : ¬ be4 (crc inner) ≠ cks := by simpa using hs
        rw [if_neg this] at h
        repeat (first | (refine T_seqk fun K hK => ?_) | (refine T_reg tOK rfl ?_; simp [hbl]) | (refine T_ret ?_; try simp) | (refine T_skip ?_; try simp) | (refine T_blockk fun K hK => ?_) | (with_reducible apply_assumption -exfalso -symm) | (rw [afterRF_ret]; simp [hbl]) | (refine T_exit ?_; try simp) | (refine T_cond_t ?_ ?_; · (simp; done)) | (refine T_cond_f ?_ ?_; · (simp; done)) | (rintro _ _ (_ | _) hz9 <;> first | (simp; done) | (simp at hz9; done)) | (refine And.intro ?_ ?_) | (simp only [Post.block_ret, Post.block_exit, Post.block_normal, Post.block_pan, Post.seq_ret, Post.seq_exit, Post.seq_normal, Post.seq_pan]; try simp [hbl]) | (refine T_draw tOK tmix [([], 0), ([0], 1), ([0, 1], 2), ([], 3), ([], 4), ([4], 5), ([3, 4, 5], 6), ([0, 1, 2, 3, 4, 5, 6], 7), ([0, 1, 2, 3, 4, 5, 6, 7], 8)] 7 (by decide +kernel) ?_; simp [hbl]) | (refine T_draw tOK tmix [([], 2), ([], 3), ([1], 4), ([1, 2], 5), ([1, 2, 3], 6), ([1, 2, 3, 4], 7), ([], 8), ([6], 9), ([6, 7], 10), ([6, 7, 8], 11), ([6, 7, 8, 9], 12), ([1, 2, 3, 4, 5, 6, 7, 8, 9, 10], 13), ([], 14), ([12], 15), ([12, 13], 16), ([12, 13, 14], 17), ([12, 13, 14, 15], 18), ([1, 2, 3, 4, 5, 6, 7, 8, 9, 10, 11, 12, 13, 14, 15, 16], 19), ([], 20), ([18], 21), ([18, 19], 22), ([18, 19, 20], 23), ([1, 2, 3, 4, 5, 6, 7, 8, 9, 10, 11, 12, 13, 14, 15, 16, 17, 18, 19, 20, 21], 24), ([1, 2, 3, 4, 5, 6, 7, 8, 9, 10, 11, 12, 13, 14, 15, 16, 17, 18, 19, 20, 21, 22], 0), ([0, 1, 2, 3, 4, 5, 6, 7, 8, 9, 10, 11, 12, 13, 14, 15, 16, 17, 18, 19, 20, 21, 22, 23], 1), ([0, 1, 2, 3, 4, 5, 6, 7, 8, 9, 10, 11, 12, 13, 14, 15, 16, 17, 18, 19, 20, 21, 22, 23, 24], 25)] 24 (by decide +kernel) ?_; simp [hbl]))
        refine TZ_seqk fun K1 hK1 => TZ_of_T ?_
        simp
        repeat (first | (refine T_seqk fun K hK => ?_) | (refine T_reg tOK rfl ?_; simp [hbl]) | (refine T_ret ?_; try simp) | (refine T_skip ?_; try simp) | (refine T_blockk fun K hK => ?_) | (with_reducible apply_assumption -exfalso -symm) | (rw [afterRF_ret]; simp [hbl]) | (refine T_exit ?_; try simp) | (refine T_cond_t ?_ ?_; · (simp; done)) | (refine T_cond_f ?_ ?_; · (simp; done)) | (rintro _ _ (_ | _) hz9 <;> first | (simp; done) | (simp at hz9; done)) | (refine And.intro ?_ ?_) | (simp only [Post.block_ret, Post.block_exit, Post.block_normal, Post.block_pan, Post.seq_ret, Post.seq_exit, Post.seq_normal, Post.seq_pan]; try simp [hbl]) | (refine T_draw tOK tmix [([], 0), ([0], 1), ([0, 1], 2), ([], 3), ([], 4), ([4], 5), ([3, 4, 5], 6), ([0, 1, 2, 3, 4, 5, 6], 7), ([0, 1, 2, 3, 4, 5, 6, 7], 8)] 7 (by decide +kernel) ?_; simp [hbl]) | (refine T_draw tOK tmix [([], 2), ([], 3), ([1], 4), ([1, 2], 5), ([1, 2, 3], 6), ([1, 2, 3, 4], 7), ([], 8), ([6], 9), ([6, 7], 10), ([6, 7, 8], 11), ([6, 7, 8, 9], 12), ([1, 2, 3, 4, 5, 6, 7, 8, 9, 10], 13), ([], 14), ([12], 15), ([12, 13], 16), ([12, 13, 14], 17), ([12, 13, 14, 15], 18), ([1, 2, 3, 4, 5, 6, 7, 8, 9, 10, 11, 12, 13, 14, 15, 16], 19), ([], 20), ([18], 21), ([18, 19], 22), ([18, 19, 20], 23), ([1, 2, 3, 4, 5, 6, 7, 8, 9, 10, 11, 12, 13, 14, 15, 16, 17, 18, 19, 20, 21], 24), ([1, 2, 3, 4, 5, 6, 7, 8, 9, 10, 11, 12, 13, 14, 15, 16, 17, 18, 19, 20, 21, 22], 0), ([0, 1, 2, 3, 4, 5, 6, 7, 8, 9, 10, 11, 12, 13, 14, 15, 16, 17, 18, 19, 20, 21, 22, 23], 1), ([0, 1, 2, 3, 4, 5, 6, 7, 8, 9, 10, 11, 12, 13, 14, 15, 16, 17, 18, 19, 20, 21, 22, 23, 24], 25)] 24 (by decide +kernel) ?_; simp [hbl]))
        obtain ⟨xs, hxs⟩ : ∃ xs, inner.drop 1 = xs := ⟨_, rfl⟩
        rw [hxs] at h
        have dr1 : (u8l inner).drop 1 = u8l xs := by rw [← hxs]; simp only [u8l, List.map_drop]
        have p1 : (1 : Int) ≤ (u8l inner).length := by omega
        have p2 : 1 ≤ (u8l inner).length := by omega
        refine TZ_seqk fun K2 hK2 => ?_
        refine TZ_seqk fun K3 hK3 => TZ_of_T ?_
        simp
        repeat (first | (refine T_seqk fun K hK => ?_) | (refine T_reg tOK rfl ?_; simp [p1,p2,dr1]) | (refine T_ret ?_; try simp) | (refine T_skip ?_; try simp) | (refine T_blockk fun K hK => ?_) | (with_reducible apply_assumption -exfalso -symm) | (rw [afterRF_ret]; simp [p1,p2,dr1]) | (refine T_exit ?_; try simp) | (refine T_cond_t ?_ ?_; · (simp; done)) | (refine T_cond_f ?_ ?_; · (simp; done)) | (rintro _ _ (_ | _) hz9 <;> first | (simp; done) | (simp at hz9; done)) | (refine And.intro ?_ ?_) | (simp only [Post.block_ret, Post.block_exit, Post.block_normal, Post.block_pan, Post.seq_ret, Post.seq_exit, Post.seq_normal, Post.seq_pan]; try simp [p1,p2,dr1]) | (refine T_draw tOK tmix [([], 0), ([0], 1), ([0, 1], 2), ([], 3), ([], 4), ([4], 5), ([3, 4, 5], 6), ([0, 1, 2, 3, 4, 5, 6], 7), ([0, 1, 2, 3, 4, 5, 6, 7], 8)] 7 (by decide +kernel) ?_; simp [p1,p2,dr1]) | (refine T_draw tOK tmix [([], 2), ([], 3), ([1], 4), ([1, 2], 5), ([1, 2, 3], 6), ([1, 2, 3, 4], 7), ([], 8), ([6], 9), ([6, 7], 10), ([6, 7, 8], 11), ([6, 7, 8, 9], 12), ([1, 2, 3, 4, 5, 6, 7, 8, 9, 10], 13), ([], 14), ([12], 15), ([12, 13], 16), ([12, 13, 14], 17), ([12, 13, 14, 15], 18), ([1, 2, 3, 4, 5, 6, 7, 8, 9, 10, 11, 12, 13, 14, 15, 16], 19), ([], 20), ([18], 21), ([18, 19], 22), ([18, 19, 20], 23), ([1, 2, 3, 4, 5, 6, 7, 8, 9, 10, 11, 12, 13, 14, 15, 16, 17, 18, 19, 20, 21], 24), ([1, 2, 3, 4, 5, 6, 7, 8, 9, 10, 11, 12, 13, 14, 15, 16, 17, 18, 19, 20, 21, 22], 0), ([0, 1, 2, 3, 4, 5, 6, 7, 8, 9, 10, 11, 12, 13, 14, 15, 16, 17, 18, 19, 20, 21, 22, 23], 1), ([0, 1, 2, 3, 4, 5, 6, 7, 8, 9, 10, 11, 12, 13, 14, 15, 16, 17, 18, 19, 20, 21, 22, 23, 24], 25)] 24 (by decide +kernel) ?_; simp [p1,p2,dr1]) | (refine C_chunk ?_; simp [p1,p2,dr1]))
        refine TZ_block ?_
        refine TZ_rangek tOK [5] rfl rfl fun l ac bd Q' hac hbd hQ' => ?_
        simp [Fr.keep]
        have hxl : xs.length = 4 * x.toNat := by rw [← hxs]; simp; omega
        have hxl' : (u8l xs).length = 4 * x.toNat := by rw [u8l_len, hxl]
        generalize hc : x.toNat = c at *
        refine C_bodyk tOK Tryz.func82 rfl (Nat.le_of_ble_eq_true rfl) fun K hK => ?_; simp
        repeat (first | (refine T_seqk fun K hK => ?_) | (refine T_reg tOK rfl ?_; simp [p1]) | (refine T_ret ?_; try simp) | (refine T_skip ?_; try simp) | (refine T_blockk fun K hK => ?_) | (with_reducible apply_assumption -exfalso -symm) | (rw [afterRF_ret]; simp [p1]) | (refine T_exit ?_; try simp) | (refine T_cond_t ?_ ?_; · (simp; done)) | (refine T_cond_f ?_ ?_; · (simp; done)) | (rintro _ _ (_ | _) hz9 <;> first | (simp; done) | (simp at hz9; done)) | (refine And.intro ?_ ?_) | (simp only [Post.block_ret, Post.block_exit, Post.block_normal, Post.block_pan, Post.seq_ret, Post.seq_exit, Post.seq_normal, Post.seq_pan]; try simp [p1]) | (refine T_draw tOK tmix [([], 0), ([], 1), ([], 2), ([1, 2], 3), ([1, 2, 3], 4), ([0, 1, 2, 3, 4], 5), ([0, 1, 2, 3, 4, 5], 6)] 5 (by decide +kernel) ?_; simp [p1]))
        refine T_loop ?_
        refine TL_keep [0, 1, 2, 4] ?_
        simp [Fr.keep]
        refine TL_st c (fun j fr σ => fr = [(0, .fn (.yield l) [] []), (1, .laddr (u8s xs)), (2, .laddr (i64 4)), (4, i64 ((4 * j : Nat) : Int))] ∧
          ((j = 0 ∧ σ = [none, none, none, none, none, none, none, none, none, some (.cells 23 0 [.nils]), some (.loop l .ready none 69 [(5, .ptr 9 0 0 [])] #[39] ac bd)]) ∨
           (∃ g y, 0 < j ∧ σ = [none, none, none, none, none, none, none, none, none, some (.cells 23 0 [.ref 44 g 0 j]), some (.loop l .ready none 69 [(5, .ptr 9 0 0 [])] #[39] ac bd), none, none, none, none, none, none, none, some (.cells 2 0 [.int .i64 y]), none, none, none, none, none, none, none, none, none, none, none, none, none, none, none, none, none, none, none, none, none, none, none, none, none, some (.cells 2 g (is (chunks xs j)))]))) ?_ ?_ ⟨rfl, .inl ⟨rfl, rfl⟩⟩
        · rintro fr σ ⟨rfl, hσ⟩
          refine TL_round ?_
          rcases hσ with ⟨hj0, rfl⟩ | ⟨g, y, hj0, rfl⟩
          · subst hQ'
            rw [hj0, show okL (chunks xs 0) = false from rfl] at h
            simp [is] at h
            repeat (first | (refine T_seqk fun K hK => ?_) | (refine T_reg tOK rfl ?_; simp [hxl']) | (refine T_ret ?_; try simp) | (refine T_skip ?_; try simp) | (refine T_blockk fun K hK => ?_) | (with_reducible apply_assumption -exfalso -symm) | (rw [afterRF_ret]; simp [hxl']) | (refine T_exit ?_; try simp) | (refine T_cond_t ?_ ?_; · (simp; done)) | (refine T_cond_f ?_ ?_; · (simp; done)) | (rintro _ _ (_ | _) hz9 <;> first | (simp; done) | (simp at hz9; done)) | (refine And.intro ?_ ?_) | (simp only [Post.block_ret, Post.block_exit, Post.block_normal, Post.block_pan, Post.seq_ret, Post.seq_exit, Post.seq_normal, Post.seq_pan]; try simp [hxl']) | (refine T_draw tOK tmix [([], 0), ([], 1), ([], 2), ([1, 2], 3), ([1, 2, 3], 4), ([0, 1, 2, 3, 4], 5), ([0, 1, 2, 3, 4, 5], 6)] 5 (by decide +kernel) ?_; simp [hxl']))
            refine TZ_seqk fun K1 hK1 => TZ_of_T ?_
            simp
            repeat (first | (refine T_seqk fun K hK => ?_) | (refine T_reg tOK rfl ?_; simp) | (refine T_ret ?_; try simp) | (refine T_skip ?_; try simp) | (refine T_blockk fun K hK => ?_) | (with_reducible apply_assumption -exfalso -symm) | (rw [afterRF_ret]; simp) | (refine T_exit ?_; try simp) | (refine T_cond_t ?_ ?_; · (simp; done)) | (refine T_cond_f ?_ ?_; · (simp; done)) | (rintro _ _ (_ | _) hz9 <;> first | (simp; done) | (simp at hz9; done)) | (refine And.intro ?_ ?_) | (simp only [Post.block_ret, Post.block_exit, Post.block_normal, Post.block_pan, Post.seq_ret, Post.seq_exit, Post.seq_normal, Post.seq_pan]; try simp) | (refine T_draw tOK tmix [([], 0), ([], 1), ([], 2), ([1, 2], 3), ([1, 2, 3], 4), ([0, 1, 2, 3, 4], 5), ([0, 1, 2, 3, 4, 5], 6)] 5 (by decide +kernel) ?_; simp) | (refine C_right_nils ?_; simp))
          · subst hQ'
            have hcln := chunks_len xs c
            repeat (first | (refine T_seqk fun K hK => ?_) | (refine T_reg tOK rfl ?_; simp [hxl']) | (refine T_ret ?_; try simp) | (refine T_skip ?_; try simp) | (refine T_blockk fun K hK => ?_) | (with_reducible apply_assumption -exfalso -symm) | (rw [afterRF_ret]; simp [hxl']) | (refine T_exit ?_; try simp) | (refine T_cond_t ?_ ?_; · (simp; done)) | (refine T_cond_f ?_ ?_; · (simp; done)) | (rintro _ _ (_ | _) hz9 <;> first | (simp; done) | (simp at hz9; done)) | (refine And.intro ?_ ?_) | (simp only [Post.block_ret, Post.block_exit, Post.block_normal, Post.block_pan, Post.seq_ret, Post.seq_exit, Post.seq_normal, Post.seq_pan]; try simp [hxl']) | (refine T_draw tOK tmix [([], 0), ([], 1), ([], 2), ([1, 2], 3), ([1, 2, 3], 4), ([0, 1, 2, 3, 4], 5), ([0, 1, 2, 3, 4, 5], 6)] 5 (by decide +kernel) ?_; simp [hxl']))
            refine TZ_seqk fun K1 hK1 => TZ_of_T ?_
            simp
            refine T_seqk fun K hK => ?_
            refine T_reg tOK rfl ?_
            simp
            refine C_right_ref (l := chunks xs c) rfl hcln.symm (by omega) ?_
            cases hok : okL (chunks xs c) with
            | false =>
              rw [hok] at h
              simp [is] at h
              repeat (first | (refine T_seqk fun K hK => ?_) | (refine T_reg tOK rfl ?_; simp) | (refine T_ret ?_; try simp) | (refine T_skip ?_; try simp) | (refine T_blockk fun K hK => ?_) | (with_reducible apply_assumption -exfalso -symm) | (rw [afterRF_ret]; simp) | (refine T_exit ?_; try simp) | (refine T_cond_t ?_ ?_; · (simp; done)) | (refine T_cond_f ?_ ?_; · (simp; done)) | (rintro _ _ (_ | _) hz9 <;> first | (simp; done) | (simp at hz9; done)) | (refine And.intro ?_ ?_) | (simp only [Post.block_ret, Post.block_exit, Post.block_normal, Post.block_pan, Post.seq_ret, Post.seq_exit, Post.seq_normal, Post.seq_pan]; try simp) | (refine T_draw tOK tmix [([], 0), ([], 1), ([], 2), ([1, 2], 3), ([1, 2, 3], 4), ([0, 1, 2, 3, 4], 5), ([0, 1, 2, 3, 4, 5], 6)] 5 (by decide +kernel) ?_; simp))
            | true =>
              rw [hok] at h
              simp at h
              repeat (first | (refine T_seqk fun K hK => ?_) | (refine T_reg tOK rfl ?_; simp) | (refine T_ret ?_; try simp) | (refine T_skip ?_; try simp) | (refine T_blockk fun K hK => ?_) | (with_reducible apply_assumption -exfalso -symm) | (rw [afterRF_ret]; simp) | (refine T_exit ?_; try simp) | (refine T_cond_t ?_ ?_; · (simp; done)) | (refine T_cond_f ?_ ?_; · (simp; done)) | (rintro _ _ (_ | _) hz9 <;> first | (simp; done) | (simp at hz9; done)) | (refine And.intro ?_ ?_) | (simp only [Post.block_ret, Post.block_exit, Post.block_normal, Post.block_pan, Post.seq_ret, Post.seq_exit, Post.seq_normal, Post.seq_pan]; try simp) | (refine T_draw tOK tmix [([], 0), ([], 1), ([], 2), ([1, 2], 3), ([1, 2, 3], 4), ([0, 1, 2, 3, 4], 5), ([0, 1, 2, 3, 4, 5], 6)] 5 (by decide +kernel) ?_; simp))
              refine TZ_of_T ?_
              simp
              repeat (first | (refine T_seqk fun K hK => ?_) | (refine T_reg tOK rfl ?_; simp) | (refine T_ret ?_; try simp) | (refine T_skip ?_; try simp) | (refine T_blockk fun K hK => ?_) | (with_reducible apply_assumption -exfalso -symm) | (rw [afterRF_ret]; simp) | (refine T_exit ?_; try simp) | (refine T_cond_t ?_ ?_; · (simp; done)) | (refine T_cond_f ?_ ?_; · (simp; done)) | (rintro _ _ (_ | _) hz9 <;> first | (simp; done) | (simp at hz9; done)) | (refine And.intro ?_ ?_) | (simp only [Post.block_ret, Post.block_exit, Post.block_normal, Post.block_pan, Post.seq_ret, Post.seq_exit, Post.seq_normal, Post.seq_pan]; try simp) | (refine T_draw tOK tmix [([], 0), ([], 1), ([], 2), ([1, 2], 3), ([1, 2, 3], 4), ([0, 1, 2, 3, 4], 5), ([0, 1, 2, 3, 4, 5], 6)] 5 (by decide +kernel) ?_; simp))
              simp only [frzRe]
              rw [frz_pair (n := 5) (frz_isrow (m := 3) (l := chunks xs c) rfl hcln.symm) rfl]
              exact h
        · rintro j fr σ hj ⟨rfl, hσ⟩ ih
          replace ih := PLift.up ih
          have g0 : decide (j < c) = true := by simpa using hj
          have n1 : (0 : Int) ≤ 4 * j := by omega
          have n2 : 4 * (j : Int) ≤ 4 * c := by omega
          have n3 : (4 * (j : Int)).toNat = 4 * j := by omega
          have n4 : j ≤ c := by omega
          have m1 : (4 * (c : Int)).toNat = 4 * c := by omega
          have m2 : min (4 : Int) ((4 * c - 4 * j : Nat) : Int) = 4 := by omega
          have m3 : IntKind.i64.wrap (4 * (j : Int) + 4) = 4 * j + 4 := IntWalk.i64_in _ (by omega)
          have m5 : 4 * (j : Int) + 4 ≤ 4 * c := by omega
          have m9 : 4 * (j : Int) ≤ 4 * j + 4 := by omega
          have m6 : (4 * (j : Int) + 4).toNat = 4 * j + 4 := by omega
          obtain ⟨a1, a2, a3, a4, h4⟩ := four_of (xs := xs.drop (4 * j)) (by simp; omega)
          have m7 : List.take 4 (List.drop (4 * j) (u8l xs)) = u8l [a1, a2, a3, a4] := by rw [← h4]; simp [u8l, List.map_take, List.map_drop]
          have m8 : List.drop (4 * j) (List.take (4 * j + 4) (u8l xs)) = u8l [a1, a2, a3, a4] := by rw [← m7, List.drop_take]; congr 1; omega
          obtain ⟨f1, f2, f3, f4, s1, s2, s3, o1, o2, o3⟩ := rd4_facts a1 a2 a3 a4
          have hch := chunks_succ xs j
          rw [h4] at hch
          have w4 : IntKind.i64.wrap (4 * (j : Int) + 4) = 4 * j + 4 := m3
          refine TL_round ?_
          rcases hσ with ⟨hj0, rfl⟩ | ⟨g, y, hj0, rfl⟩
          · skip
            repeat (first | (refine T_seqk fun K hK => ?_) | (refine T_reg tOK rfl ?_; simp [hxl',g0,n1,n2,n3,n4,m1,m2,m3,m5,m6,m8,m9]) | (refine T_ret ?_; try simp) | (refine T_skip ?_; try simp) | (refine T_blockk fun K hK => ?_) | (with_reducible apply_assumption -exfalso -symm) | (rw [afterRF_ret]; simp [hxl',g0,n1,n2,n3,n4,m1,m2,m3,m5,m6,m8,m9]) | (refine T_exit ?_; try simp) | (refine T_cond_t ?_ ?_; · (simp; done)) | (refine T_cond_f ?_ ?_; · (simp; done)) | (rintro _ _ (_ | _) hz9 <;> first | (simp; done) | (simp at hz9; done)) | (refine And.intro ?_ ?_) | (simp only [Post.block_ret, Post.block_exit, Post.block_normal, Post.block_pan, Post.seq_ret, Post.seq_exit, Post.seq_normal, Post.seq_pan]; try simp [hxl',g0,n1,n2,n3,n4,m1,m2,m3,m5,m6,m8,m9]) | (refine T_draw tOK tmix [([], 0), ([], 1), ([], 2), ([1, 2], 3), ([1, 2, 3], 4), ([0, 1, 2, 3, 4], 5), ([0, 1, 2, 3, 4, 5], 6)] 5 (by decide +kernel) ?_; simp [hxl',g0,n1,n2,n3,n4,m1,m2,m3,m5,m6,m8,m9]))
            refine YR_walk 10 (n := 69) (fr0 := [(5, .ptr 9 0 0 [])]) (ps := #[39]) (ac := ac) (bd := bd) (pend := none) ?_ ?_ ?_ ?_
            · rfl
            · rfl
            · decide
            refine T_cast hac ?_
            simp [putsF]
            refine T_reg tOK rfl ?_
            simp
            refine ⟨_, _, ⟨rfl, rfl⟩, ?_⟩
            refine get_round0 (ac := ac) (by rw [hac, hbd]; rfl) rfl rfl fun fr => ?_
            simp only [roundQ]
            simp
            repeat (first | (refine T_seqk fun K hK => ?_) | (refine T_reg tOK rfl ?_; simp [m3]) | (refine T_ret ?_; try simp) | (refine T_skip ?_; try simp) | (refine T_blockk fun K hK => ?_) | (with_reducible apply_assumption -exfalso -symm) | (rw [afterRF_ret]; simp [m3]) | (refine T_exit ?_; try simp) | (refine T_cond_t ?_ ?_; · (simp; done)) | (refine T_cond_f ?_ ?_; · (simp; done)) | (rintro _ _ (_ | _) hz9 <;> first | (simp; done) | (simp at hz9; done)) | (refine And.intro ?_ ?_) | (simp only [Post.block_ret, Post.block_exit, Post.block_normal, Post.block_pan, Post.seq_ret, Post.seq_exit, Post.seq_normal, Post.seq_pan]; try simp [m3]) | (refine T_draw tOK tmix [([], 0), ([], 1), ([], 2), ([1, 2], 3), ([1, 2, 3], 4), ([0, 1, 2, 3, 4], 5), ([0, 1, 2, 3, 4, 5], 6)] 5 (by decide +kernel) ?_; simp [m3]))
            refine TL_fall (fr' := [(0, .fn (.yield l) [] []), (1, .laddr (u8s xs)), (2, .laddr (i64 4)), (4, i64 ((4 * (j + 1) : Nat) : Int))]) (σ' := [none, none, none, none, none, none, none, none, none, some (.cells 23 0 [.ref 44 0 0 1]), some (.loop l .ready none 69 [(5, .ptr 9 0 0 [])] #[39] ac bd), none, none, none, none, none, none, none, some (.cells 2 0 [.int .i64 (rd4 [a1, a2, a3, a4])]), none, none, none, none, none, none, none, none, none, none, none, none, none, none, none, none, none, none, none, none, none, none, none, none, none, some (.cells 2 0 (is [(rd4 [a1, a2, a3, a4])]))]) 45 [0, 1, 2, 4] (by simp) (by simp [Fr.keep]; omega) (by simp [belowFr, belowB, belowL_of_pure 45 _ (pureL_u8 xs), belowL]) (by simp) (by simp [belowStore, belowBlk, belowL_of_pure 45 _ (pureL_is _), belowL, belowB]) (ih.down _ _ ⟨rfl, .inr ⟨0, (rd4 [a1, a2, a3, a4]), by omega, ?_⟩⟩)
            rw [hch]; subst hj0; rfl
          · skip
            repeat (first | (refine T_seqk fun K hK => ?_) | (refine T_reg tOK rfl ?_; simp [hxl',g0,n1,n2,n3,n4,m1,m2,m3,m5,m6,m8,m9]) | (refine T_ret ?_; try simp) | (refine T_skip ?_; try simp) | (refine T_blockk fun K hK => ?_) | (with_reducible apply_assumption -exfalso -symm) | (rw [afterRF_ret]; simp [hxl',g0,n1,n2,n3,n4,m1,m2,m3,m5,m6,m8,m9]) | (refine T_exit ?_; try simp) | (refine T_cond_t ?_ ?_; · (simp; done)) | (refine T_cond_f ?_ ?_; · (simp; done)) | (rintro _ _ (_ | _) hz9 <;> first | (simp; done) | (simp at hz9; done)) | (refine And.intro ?_ ?_) | (simp only [Post.block_ret, Post.block_exit, Post.block_normal, Post.block_pan, Post.seq_ret, Post.seq_exit, Post.seq_normal, Post.seq_pan]; try simp [hxl',g0,n1,n2,n3,n4,m1,m2,m3,m5,m6,m8,m9]) | (refine T_draw tOK tmix [([], 0), ([], 1), ([], 2), ([1, 2], 3), ([1, 2, 3], 4), ([0, 1, 2, 3, 4], 5), ([0, 1, 2, 3, 4, 5], 6)] 5 (by decide +kernel) ?_; simp [hxl',g0,n1,n2,n3,n4,m1,m2,m3,m5,m6,m8,m9]))
            refine YR_walk 10 (n := 69) (fr0 := [(5, .ptr 9 0 0 [])]) (ps := #[39]) (ac := ac) (bd := bd) (pend := none) ?_ ?_ ?_ ?_
            · rfl
            · rfl
            · decide
            refine T_cast hac ?_
            simp [putsF]
            refine T_reg tOK rfl ?_
            simp
            refine ⟨_, _, ⟨rfl, rfl⟩, ?_⟩
            refine get_round1 (ac := ac) (L := chunks xs j) (by rw [hac, hbd]; rfl) rfl rfl (chunks_len xs j) (by omega) fun fr => ?_
            simp only [roundQ]
            simp
            repeat (first | (refine T_seqk fun K hK => ?_) | (refine T_reg tOK rfl ?_; simp [m3]) | (refine T_ret ?_; try simp) | (refine T_skip ?_; try simp) | (refine T_blockk fun K hK => ?_) | (with_reducible apply_assumption -exfalso -symm) | (rw [afterRF_ret]; simp [m3]) | (refine T_exit ?_; try simp) | (refine T_cond_t ?_ ?_; · (simp; done)) | (refine T_cond_f ?_ ?_; · (simp; done)) | (rintro _ _ (_ | _) hz9 <;> first | (simp; done) | (simp at hz9; done)) | (refine And.intro ?_ ?_) | (simp only [Post.block_ret, Post.block_exit, Post.block_normal, Post.block_pan, Post.seq_ret, Post.seq_exit, Post.seq_normal, Post.seq_pan]; try simp [m3]) | (refine T_draw tOK tmix [([], 0), ([], 1), ([], 2), ([1, 2], 3), ([1, 2, 3], 4), ([0, 1, 2, 3, 4], 5), ([0, 1, 2, 3, 4, 5], 6)] 5 (by decide +kernel) ?_; simp [m3]))
            refine TL_fall (fr' := [(0, .fn (.yield l) [] []), (1, .laddr (u8s xs)), (2, .laddr (i64 4)), (4, i64 ((4 * (j + 1) : Nat) : Int))]) (σ' := [none, none, none, none, none, none, none, none, none, some (.cells 23 0 [.ref 44 (g + 1) 0 (j + 1)]), some (.loop l .ready none 69 [(5, .ptr 9 0 0 [])] #[39] ac bd), none, none, none, none, none, none, none, some (.cells 2 0 [.int .i64 y]), none, none, none, none, none, none, none, none, none, none, none, none, none, none, none, none, none, none, none, none, none, none, none, none, none, some (.cells 2 (g + 1) (is (chunks xs j ++ [(rd4 [a1, a2, a3, a4])])))]) 45 [0, 1, 2, 4] (by simp) (by simp [Fr.keep]; omega) (by simp [belowFr, belowB, belowL_of_pure 45 _ (pureL_u8 xs), belowL]) (by simp) (by simp [belowStore, belowBlk, belowL_of_pure 45 _ (pureL_is _), belowL, belowB]) (ih.down _ _ ⟨rfl, .inr ⟨(g + 1), y, by omega, ?_⟩⟩)
            rw [hch]
end
end Go.Proofs.YtdplbgfokoajjaaGreat
end
