/- Manifests: the plain law of the bytes and of the checksum. -/
import Derived.Test.YtdplbgfokoajjaaGreatXm
import Derived.Test.YtdplbgfokoajjaaGreatXj
section
set_option linter.unusedVariables false
set_option linter.unusedSimpArgs false
set_option maxRecDepth 20000
namespace Go.Proofs.YtdplbgfokoajjaaGreat
open Go
def crcInv : List Nat := [0, 65, 195, 130, 134, 199, 69, 4, 77, 12, 142, 207, 203, 138, 8, 73, 154, 219, 89, 24, 28, 93, 223, 158, 215, 150, 20, 85, 81, 16, 146, 211, 117, 52, 182, 247, 243, 178, 48, 113, 56, 121, 251, 186, 190, 255, 125, 60, 239, 174, 44, 109, 105, 40, 170, 235, 162, 227, 97, 32, 36, 101, 231, 166, 234, 171, 41, 104, 108, 45, 175, 238, 167, 230, 100, 37, 33, 96, 226, 163, 112, 49, 179, 242, 246, 183, 53, 116, 61, 124, 254, 191, 187, 250, 120, 57, 159, 222, 92, 29, 25, 88, 218, 155, 210, 147, 17, 80, 84, 21, 151, 214, 5, 68, 198, 135, 131, 194, 64, 1, 72, 9, 139, 202, 206, 143, 13, 76, 149, 212, 86, 23, 19, 82, 208, 145, 216, 153, 27, 90, 94, 31, 157, 220, 15, 78, 204, 141, 137, 200, 74, 11, 66, 3, 129, 192, 196, 133, 7, 70, 224, 161, 35, 98, 102, 39, 165, 228, 173, 236, 110, 47, 43, 106, 232, 169, 122, 59, 185, 248, 252, 189, 63, 126, 55, 118, 244, 181, 177, 240, 114, 51, 127, 62, 188, 253, 249, 184, 58, 123, 50, 115, 241, 176, 180, 245, 119, 54, 229, 164, 38, 103, 99, 34, 160, 225, 168, 233, 107, 42, 46, 111, 237, 172, 10, 75, 201, 136, 140, 205, 79, 14, 71, 6, 132, 197, 193, 128, 2, 67, 144, 209, 83, 18, 22, 87, 213, 148, 221, 156, 30, 95, 91, 26, 152, 217]
theorem crcInv_ok : ((List.range 256).all fun i => crcInv.getD (cs8 i / 16777216) 300 == i) = true := by decide +kernel
theorem cs8_hi {i j : Nat} (hi : i < 256) (hj : j < 256) (h : cs8 i / 16777216 = cs8 j / 16777216) : i = j := by
 have a := List.all_eq_true.1 crcInv_ok i (List.mem_range.2 hi)
 have b := List.all_eq_true.1 crcInv_ok j (List.mem_range.2 hj)
 rw [beq_iff_eq] at a b
 rw [← a, ← b, h]
theorem xor_hi {a x : Nat} (ha : a < 16777216) : (a ^^^ x) / 16777216 = x / 16777216 := by
 have := Nat.shiftRight_xor_distrib (a := a) (b := x) (i := 24)
 simp only [Nat.shiftRight_eq_div_pow] at this
 rw [show (2 : Nat) ^ 24 = 16777216 from rfl, Nat.div_eq_of_lt ha, Nat.zero_xor] at this
 exact this
theorem xor_cancel {a b c : Nat} (h : a ^^^ b = a ^^^ c) : b = c := by
 have : a ^^^ (a ^^^ b) = a ^^^ (a ^^^ c) := by rw [h]
 rwa [← Nat.xor_assoc, ← Nat.xor_assoc, Nat.xor_self, Nat.zero_xor, Nat.zero_xor] at this
theorem xor_cancel' {a b c : Nat} (h : b ^^^ a = c ^^^ a) : b = c := xor_cancel (a := a) (by rwa [Nat.xor_comm b, Nat.xor_comm c] at h)
theorem crcStep_inj {r s : Nat} {c d : UInt8} (hr : r < 4294967296) (hs : s < 4294967296) (h : crcStep r c = crcStep s d) : r / 256 = s / 256 ∧ r % 256 ^^^ c.toNat = s % 256 ^^^ d.toNat := by
 unfold crcStep at h
 have hc := c.toNat_lt
 have hd := d.toNat_lt
 have l1 : r % 256 ^^^ c.toNat < 256 := Nat.xor_lt_two_pow (n := 8) (by omega) (by omega)
 have l2 : s % 256 ^^^ d.toNat < 256 := Nat.xor_lt_two_pow (n := 8) (by omega) (by omega)
 have e : r % 256 ^^^ c.toNat = s % 256 ^^^ d.toNat := by
  refine cs8_hi l1 l2 ?_
  exact (xor_hi (a := r / 256) (by omega)).symm.trans ((congrArg (· / 16777216) h).trans (xor_hi (a := s / 256) (by omega)))
 rw [e] at h
 exact ⟨xor_cancel' h, e⟩
theorem crcStep_l {r s : Nat} {c : UInt8} (hr : r < 4294967296) (hs : s < 4294967296) (h : crcStep r c = crcStep s c) : r = s := by
 obtain ⟨h1, h2⟩ := crcStep_inj hr hs h
 have := xor_cancel' h2
 omega
theorem crcStep_r {r : Nat} {c d : UInt8} (hr : r < 4294967296) (h : crcStep r c = crcStep r d) : c = d := UInt8.toNat_inj.1 (xor_cancel (crcStep_inj hr hr h).2)
theorem fold_inj : ∀ (l : List UInt8) {r s : Nat}, r < 4294967296 → s < 4294967296 → l.foldl crcStep r = l.foldl crcStep s → r = s
 | [], r, s, hr, hs, h => h
 | c :: l, r, s, hr, hs, h => crcStep_l hr hs (fold_inj l (crcStep_lt hr c) (crcStep_lt hs c) h)
theorem crc_turn {pre post : List UInt8} {x y : UInt8} (h : crc (pre ++ x :: post) = crc (pre ++ y :: post)) : x = y := by
 unfold crc crcM at h
 have h := xor_cancel h
 simp only [List.foldl_append, List.foldl_cons] at h
 have hp : pre.foldl crcStep (4294967295 ^^^ 0) < 4294967296 := fold_lt pre (by decide)
 exact crcStep_r hp (fold_inj post (crcStep_lt hp x) (crcStep_lt hp y) h)
theorem ofNat_of {n : Nat} (h : n < 256) : (UInt8.ofNat n).toNat = n := by simp; omega
theorem rd4_be4 {n : Nat} (h : n < 4294967296) : rd4 (be4 n) = (n : Int) := by
 have e (m : Nat) : (UInt8.ofNat m).toNat = m % 256 := by simp
 unfold be4 rd4
 simp only [e]
 omega
theorem be4_rd4 (a b c d : UInt8) : be4 (rd4 [a, b, c, d]).toNat = [a, b, c, d] := by
 have ha := a.toNat_lt
 have hb := b.toNat_lt
 have hc := c.toNat_lt
 have hd := d.toNat_lt
 have e : (rd4 [a, b, c, d]).toNat = a.toNat * 16777216 + b.toNat * 65536 + c.toNat * 256 + d.toNat := by
  have : rd4 [a, b, c, d] = (a.toNat : Int) * 16777216 + (b.toNat : Int) * 65536 + (c.toNat : Int) * 256 + d.toNat := rfl
  rw [this]; omega
 rw [e]
 unfold be4
 have k (m : Nat) (x : UInt8) (h : m % 256 = x.toNat) : UInt8.ofNat m = x := UInt8.toNat_inj.1 (by simpa using h)
 rw [k _ a (by omega), k _ b (by omega), k _ c (by omega), k _ d (by omega)]
theorem be4_inj {a b : Nat} (ha : a < 4294967296) (hb : b < 4294967296) (h : be4 a = be4 b) : a = b := by
 have := congrArg rd4 h
 rw [rd4_be4 ha, rd4_be4 hb] at this
 omega
theorem mbody_drop {l : List Int} {j : Nat} (h : j < l.length) : ((mbody l).drop (4 * j)).take 4 = be4 (l[j]).toNat := by
 induction l generalizing j with
 | nil => simp at h
 | cons a l ih =>
  have hb : mbody (a :: l) = be4 a.toNat ++ mbody l := by simp [mbody]
  rw [hb]
  cases j with
  | zero => rw [Nat.mul_zero, List.drop_zero]; exact List.take_left' rfl
  | succ j =>
   have : (be4 a.toNat ++ mbody l).drop (4 * (j + 1)) = (mbody l).drop (4 * j) := by
    rw [List.drop_append, show (be4 a.toNat).drop (4 * (j + 1)) = [] from List.drop_eq_nil_of_le (by rw [be4_len]; omega), be4_len, List.nil_append]
    congr 1
   rw [this]
   have h' : j < l.length := by simpa using h
   rw [ih h']; simp
theorem chunks_mbody {l : List Int} (h : l.all inB = true) : chunks (mbody l) l.length = l := by
 refine List.ext_getElem (by simp [chunks]) fun j h1 h2 => ?_
 have hb := List.all_eq_true.1 h l[j] (List.getElem_mem h2)
 unfold inB at hb
 simp only [Bool.and_eq_true, decide_eq_true_eq] at hb
 simp only [chunks, List.getElem_map, List.getElem_range]
 rw [mbody_drop h2, rd4_be4 (by omega)]
 omega
theorem mbody_chunks : ∀ (n : Nat) (xs : List UInt8), xs.length = 4 * n → mbody (chunks xs n) = xs
 | 0, xs, h => by
  have : xs = [] := List.length_eq_zero_iff.1 (by omega)
  subst this; rfl
 | n + 1, xs, h => by
  match xs, h with
  | a :: b :: c :: d :: xs, h =>
   have ih := mbody_chunks n xs (by simp at h; omega)
   have : chunks (a :: b :: c :: d :: xs) (n + 1) = rd4 [a, b, c, d] :: chunks xs n := by
    unfold chunks
    rw [List.range_succ_eq_map, List.map_cons, List.map_map]
    congr 1
   rw [this]
   have e : mbody (rd4 [a, b, c, d] :: chunks xs n) = be4 (rd4 [a, b, c, d]).toNat ++ mbody (chunks xs n) := by simp [mbody]
   rw [e, be4_rd4, ih]; rfl
theorem okL_facts {l : List Int} (h : okL l = true) : 0 < l.length ∧ l.length ≤ 40 ∧ l.all inB = true := by
 unfold okL at h
 simp only [Bool.and_eq_true, decide_eq_true_eq] at h
 exact ⟨h.1.1.1, h.1.1.2, h.1.2⟩
theorem mout_len (l : List Int) : (mout l).length = 1 + 4 * l.length := by simp [mout, mbody_len]; omega
theorem manPut_len {l : List Int} (h : okL l = true) : (manPut l).length = 5 + 4 * l.length := by
 unfold manPut; rw [if_pos h, List.length_append, mout_len, be4_len]; omega
theorem manPut_pos {l : List Int} : (0 < (manPut l).length) = (okL l = true) := by
 cases h : okL l with
 | true => rw [manPut_len h]; simp; omega
 | false => unfold manPut; rw [if_neg (by simp [h])]; simp
theorem mout_head {l : List Int} (h : okL l = true) (t : List UInt8) : (((mout l) ++ t).headD 0).toNat = l.length := by
 have := (okL_facts h).2.1
 show (UInt8.ofNat l.length).toNat = l.length
 exact ofNat_of (by omega)
theorem manGet_put {l : List Int} (h : okL l = true) : manGet (manPut l) = (l, 0) := by
 have hl := manPut_len h
 have ⟨f1, f2, f3⟩ := okL_facts h
 have hp : manPut l = mout l ++ be4 (crc (mout l)) := by unfold manPut; rw [if_pos h]
 have hh := mout_head h (be4 (crc (mout l)))
 unfold manGet
 rw [hl, hp, hh, if_neg (by omega)]
 have hm := mout_len l
 rw [show 5 + 4 * l.length - 4 = (mout l).length by omega, List.take_left' rfl, List.drop_left' rfl, if_neg (by simp)]
 have : (mout l).drop 1 = mbody l := rfl
 rw [this, chunks_mbody f3, if_pos h]
theorem manGet_more {l : List Int} (h : okL l = true) (x : UInt8) : manGet (manPut l ++ [x]) = ([], 12) := by
 have hl := manPut_len h
 have hp : manPut l = mout l ++ be4 (crc (mout l)) := by unfold manPut; rw [if_pos h]
 have hh := mout_head h (be4 (crc (mout l)) ++ [x])
 unfold manGet
 rw [List.length_append, hl, hp, List.append_assoc, hh, if_pos (by simp)]
theorem manGet_none {b : List UInt8} (h : (manGet b).2 ≠ 0) : (manGet b).1 = [] := by
 unfold manGet at h ⊢
 split
 ·rfl
 ·split
  ·rfl
  ·split
   ·rename_i h1 h2 h3; rw [if_neg h1, if_neg h2, if_pos h3] at h; simp at h
   ·rfl
theorem manGet_some {b : List UInt8} (h : (manGet b).2 = 0) : okL (manGet b).1 = true ∧ manPut (manGet b).1 = b := by
 unfold manGet at h ⊢
 split at h
 ·simp at h
 ·rename_i h1
  split at h
  ·simp at h
  ·rename_i h2
   split at h
   ·rename_i h3
    rw [if_neg h1, if_neg h2, if_pos h3]
    refine ⟨h3, ?_⟩
    simp only
    unfold manPut
    rw [if_pos h3]
    match b, h1, h2, h3 with
    | [], h1, _, _ => simp at h1
    | n :: t, h1, h2, h3 =>
     have hl : t.length = 4 + 4 * n.toNat := by simp at h1; omega
     have hx : ((n :: t).take ((n :: t).length - 4)).drop 1 = t.take (4 * n.toNat) := by
      rw [show (n :: t).length - 4 = 4 * n.toNat + 1 by simp; omega, List.take_succ_cons]; rfl
     have hm : mout (chunks (((n :: t).take ((n :: t).length - 4)).drop 1) n.toNat) = (n :: t).take ((n :: t).length - 4) := by
      unfold mout
      rw [hx, mbody_chunks _ _ (by simp; omega), chunks_len]
      rw [show (n :: t).length - 4 = 4 * n.toNat + 1 by simp; omega, List.take_succ_cons]
      congr 1
      exact UInt8.toNat_inj.1 (by simp)
     have hm' : mout (chunks (((n :: t).take ((n :: t).length - 4)).drop 1) ((n :: t).headD 0).toNat) = (n :: t).take ((n :: t).length - 4) := hm
     rw [hm']
     have h2 : be4 (crc ((n :: t).take ((n :: t).length - 4))) = (n :: t).drop ((n :: t).length - 4) := Decidable.not_not.1 h2
     rw [h2, List.take_append_drop]
   ·simp at h
theorem manGet_turn {l : List Int} (h : okL l = true) {k : Nat} (hk : k < (manPut l).length) {v : UInt8} (hv : v ≠ (manPut l)[k]) : (manGet ((manPut l).set k v)).2 ≠ 0 := by
 have hl := manPut_len h
 have hp : manPut l = mout l ++ be4 (crc (mout l)) := by unfold manPut; rw [if_pos h]
 have hm := mout_len l
 have hm4 : 5 + 4 * l.length - 4 = (mout l).length := by omega
 unfold manGet
 rw [List.length_set, hl]
 by_cases h0 : k = 0
 ·subst h0
  have : ((manPut l).set 0 v).headD 0 = v := by
   cases hq : manPut l with
   | nil => rw [hq] at hl; simp at hl; omega
   | cons a t => rfl
  rw [this, if_pos]
  ·simp
  ·refine .inr fun e => hv (UInt8.toNat_inj.1 ?_)
   have hh := mout_head h (be4 (crc (mout l)))
   rw [← hp] at hh
   have : ∀ (xs : List UInt8) (hx : 0 < xs.length), xs[0] = xs.headD 0 := fun xs hx => by cases xs with
    | nil => simp at hx
    | cons a t => rfl
   rw [this _ hk, hh]; omega
 ·have hh : (((manPut l).set k v).headD 0).toNat = l.length := by
   have hh := mout_head h (be4 (crc (mout l)))
   rw [← hp] at hh
   rw [← hh]
   cases hq : manPut l with
   | nil => rfl
   | cons a t =>
    cases k with
    | zero => exact absurd rfl h0
    | succ k => rfl
  rw [hh, if_neg (by omega), hm4]
  have key : be4 (crc (((manPut l).set k v).take (mout l).length)) ≠ ((manPut l).set k v).drop (mout l).length := by
   by_cases hk' : k < (mout l).length
   ·have e : (manPut l).set k v = (mout l).set k v ++ be4 (crc (mout l)) := by rw [hp, List.set_append_left _ _ hk']
    have hvk : (manPut l)[k] = (mout l)[k] := by simp only [hp]; rw [List.getElem_append_left hk']
    rw [e, List.take_left' (by simp), List.drop_left' (by simp)]
    intro hc
    have hc := be4_inj (crc_lt _) (crc_lt _) hc
    have s1 : (mout l).set k v = (mout l).take k ++ v :: (mout l).drop (k + 1) := List.set_eq_take_append_cons_drop.trans (if_pos hk')
    have s2 : mout l = (mout l).take k ++ (mout l)[k] :: (mout l).drop (k + 1) := by
     rw [← List.drop_eq_getElem_cons hk', List.take_append_drop]
    rw [s1] at hc
    have hc := hc.trans (congrArg crc s2)
    exact hv ((crc_turn hc).trans hvk.symm)
   ·have hk' : (mout l).length ≤ k := by omega
    have e : (manPut l).set k v = mout l ++ (be4 (crc (mout l))).set (k - (mout l).length) v := by rw [hp, List.set_append_right _ _ hk']
    rw [e, List.take_left' rfl, List.drop_left' rfl]
    intro hc
    have hlt : k - (mout l).length < (be4 (crc (mout l))).length := by rw [be4_len]; omega
    have hvk : (manPut l)[k] = (be4 (crc (mout l)))[k - (mout l).length] := by simp only [hp]; rw [List.getElem_append_right hk']
    have : (be4 (crc (mout l)))[k - (mout l).length] = v := by
     have h3 : (be4 (crc (mout l)))[k - (mout l).length]? = some v := by rw [hc, List.getElem?_set_self hlt]
     rw [List.getElem?_eq_getElem hlt] at h3; simpa using h3
    exact hv (this.symm.trans hvk.symm)
  rw [if_pos key]; simp
theorem xor_half (x y : Nat) : (x ^^^ y) / 2 = x / 2 ^^^ y / 2 := by
 have := Nat.shiftRight_xor_distrib (a := x) (b := y) (i := 1)
 simpa [Nat.shiftRight_eq_div_pow] using this
theorem cs_xor (x y : Nat) : cs (x ^^^ y) = cs x ^^^ cs y := by
 unfold cs
 rw [xor_half]
 have h : ((x ^^^ y) % 2 = 1) ↔ ¬ (x % 2 = 1 ↔ y % 2 = 1) := Nat.xor_mod_two_eq_one
 have e : (if (x ^^^ y) % 2 = 1 then 3988292384 else 0) = (if x % 2 = 1 then 3988292384 else 0) ^^^ (if y % 2 = 1 then 3988292384 else (0 : Nat)) := by
  by_cases hx : x % 2 = 1 <;> by_cases hy : y % 2 = 1 <;> simp [h, hx, hy]
 rw [e]
 simp only [Nat.xor_assoc]
 congr 1
 rw [← Nat.xor_assoc, Nat.xor_comm (y / 2), Nat.xor_assoc]
theorem csN_xor : ∀ (k x y : Nat), csN k (x ^^^ y) = csN k x ^^^ csN k y
 | 0, x, y => rfl
 | k + 1, x, y => by
  show cs (csN k (x ^^^ y)) = cs (csN k x) ^^^ cs (csN k y)
  rw [csN_xor k, cs_xor]
theorem cs_even (m : Nat) : cs (2 * m) = m := by
 unfold cs
 rw [if_neg (by omega), Nat.xor_zero]
 omega
theorem csN_shift : ∀ (k x m : Nat), csN k (2 ^ (k + m) * x) = 2 ^ m * x
 | 0, x, m => by simp [csN]
 | k + 1, x, m => by
  show cs (csN k (2 ^ (k + 1 + m) * x)) = _
  rw [show k + 1 + m = k + (m + 1) by omega, csN_shift k x (m + 1), Nat.pow_succ, Nat.mul_comm (2 ^ m) 2, Nat.mul_assoc, cs_even]
theorem split_byte (r : Nat) : r = (2 ^ 8 * (r / 2 ^ 8)) ^^^ (r % 2 ^ 8) := by
 refine Nat.eq_of_testBit_eq fun i => ?_
 rw [Nat.testBit_xor, Nat.testBit_two_pow_mul, Nat.testBit_mod_two_pow]
 by_cases h : i < 8
 ·simp [h, show ¬ 8 ≤ i by omega]
 ·have h8 : 8 ≤ i := by omega
  simp only [h8, decide_true, Bool.true_and, h, decide_false, Bool.false_and, Bool.xor_false]
  rw [Nat.testBit_div_two_pow]
  congr 1; omega
theorem csN8 (r : Nat) (c : UInt8) : csN 8 (r ^^^ c.toNat) = crcStep r c := by
 have hc := c.toNat_lt
 unfold crcStep cs8
 rw [split_byte (r ^^^ c.toNat), csN_xor]
 have h1 := csN_shift 8 ((r ^^^ c.toNat) / 2 ^ 8) 0
 rw [show 8 + 0 = 8 from rfl, Nat.pow_zero, Nat.one_mul] at h1
 rw [h1]
 have d : (r ^^^ c.toNat) / 2 ^ 8 = r / 256 := by
  have := Nat.shiftRight_xor_distrib (a := r) (b := c.toNat) (i := 8)
  simp only [Nat.shiftRight_eq_div_pow] at this
  rw [this, Nat.div_eq_of_lt (show c.toNat < 2 ^ 8 by omega), Nat.xor_zero]
 have m : (r ^^^ c.toNat) % 2 ^ 8 = r % 256 ^^^ c.toNat := by
  rw [Nat.xor_mod_two_pow, Nat.mod_eq_of_lt (show c.toNat < 2 ^ 8 by omega)]
 rw [d, m]
end Go.Proofs.YtdplbgfokoajjaaGreat
end
section
set_option linter.unusedVariables false
set_option linter.unusedSimpArgs false
set_option maxRecDepth 20000
namespace Go.Proofs.YtdplbgfokoajjaaGreat
open Go
attribute [local simp] RF_nil RF_cons afterRF_ret nilCmp sop sGuard isCall sCallee Fr.eval Fr.get Fr.put ofConst sLoad sStore sBuiltin Fr.args bodyQ sRes oneOf sBin sInt sUn
attribute [local simp] RD_nil RD_cons noConf clear accAdd Tab.pr Tab.slot foot wid idOf refId Op.operands Call.operands sFieldAddr sNilCheck sLookup keyLit sMapSet sMapDel sLen Store.at Store.new getP setP typeAt fits evalParts sBuildSlice sFill sList sApp sAppend frzRe frz pureB pureL
attribute [local simp] optEval sSlice sIndexAddr xop sClear dkB dkS
abbrev filN : ByteArray := ⟨#[109, 97, 110, 105, 102, 101, 115, 116]⟩
abbrev tmpN : ByteArray := ⟨#[109, 97, 110, 105, 102, 101, 115, 116, 46, 116, 109, 112]⟩
def manLoad (d : Dk) : List Int × Int := match dget filN.data.toList d.files with
 | none => ([], 3)
 | some f => manGet f.b
def manUndo (e : Int) (d : Dk) : Int × Dk := if e == 42 then (e, d) else (e, (delete d tmpN).2)
def manTurn (d : Dk) (l : List Int) : Int × Dk :=
 let w := write d tmpN (manPut l)
 if w.1 == 0 then
  let s := sync w.2 tmpN
  if s.1 == 0 then rename s.2 tmpN filN else manUndo s.1 s.2
 else manUndo w.1 w.2
def manSwap (d : Dk) (l : List Int) : Int × Dk :=
 if okL l then
  if (dget tmpN.data.toList d.files).isSome then
   let e := delete d tmpN
   if e.1 == 0 then manTurn e.2 l else e
  else manTurn d l
 else (1, d)
section
variable {R : Re → Store → Prop} {σ : Store} {d : Dk} {i j : Nat} {l : List Int}
theorem C_load_at (h0 : DkAt σ i j d) (hI : Inv d) (h : R (.ret (.tup [.lit (is (manLoad d).1), i64 (manLoad d).2])) σ) : C tE 12 [.ptr i 0 0 []] σ R := by
 unfold manLoad at h
 have hs : filN.size ≤ maxLen := by decide
 cases hg : dget filN.data.toList d.files with
 | none =>
  simp only [hg, is, List.map_nil] at h
  refine C_new tOK ?_
  refine C_bodyk tOK Tryz.func12 rfl (Nat.le_of_ble_eq_true rfl) fun K hK => ?_; simp
  repeat (first | (refine T_seqk fun K hK => ?_) | (refine T_reg tOK rfl ?_; simp) | (refine T_ret ?_; try simp) | (refine T_skip ?_; try simp) | (refine T_blockk fun K hK => ?_) | (with_reducible apply_assumption -exfalso -symm) | (rw [afterRF_ret]; simp) | (refine T_exit ?_; try simp) | (refine T_cond_t ?_ ?_; · (simp; done)) | (refine T_cond_f ?_ ?_; · (simp; done)) | (rintro _ _ (_ | _) hz9 <;> first | (simp; done) | (simp at hz9; done)) | (refine And.intro ?_ ?_) | (simp only [Post.block_ret, Post.block_exit, Post.block_normal, Post.block_pan, Post.seq_ret, Post.seq_exit, Post.seq_normal, Post.seq_pan]; try simp))
  refine C_read_at (j := j) h0 hI hs ?_
  simp [hg]
  repeat (first | (refine T_seqk fun K hK => ?_) | (refine T_reg tOK rfl ?_; simp) | (refine T_ret ?_; try simp) | (refine T_skip ?_; try simp) | (refine T_blockk fun K hK => ?_) | (with_reducible apply_assumption -exfalso -symm) | (rw [afterRF_ret]; simp) | (refine T_exit ?_; try simp) | (refine T_cond_t ?_ ?_; · (simp; done)) | (refine T_cond_f ?_ ?_; · (simp; done)) | (rintro _ _ (_ | _) hz9 <;> first | (simp; done) | (simp at hz9; done)) | (refine And.intro ?_ ?_) | (simp only [Post.block_ret, Post.block_exit, Post.block_normal, Post.block_pan, Post.seq_ret, Post.seq_exit, Post.seq_normal, Post.seq_pan]; try simp))
  ·exact .inl (by simp)
  ·simpa [frzT, frzN] using h
 | some f =>
  simp only [hg] at h
  have hF := hI.flOK hg
  refine C_new tOK ?_
  refine C_bodyk tOK Tryz.func12 rfl (Nat.le_of_ble_eq_true rfl) fun K hK => ?_; simp
  repeat (first | (refine T_seqk fun K hK => ?_) | (refine T_reg tOK rfl ?_; simp) | (refine T_ret ?_; try simp) | (refine T_skip ?_; try simp) | (refine T_blockk fun K hK => ?_) | (with_reducible apply_assumption -exfalso -symm) | (rw [afterRF_ret]; simp) | (refine T_exit ?_; try simp) | (refine T_cond_t ?_ ?_; · (simp; done)) | (refine T_cond_f ?_ ?_; · (simp; done)) | (rintro _ _ (_ | _) hz9 <;> first | (simp; done) | (simp at hz9; done)) | (refine And.intro ?_ ?_) | (simp only [Post.block_ret, Post.block_exit, Post.block_normal, Post.block_pan, Post.seq_ret, Post.seq_exit, Post.seq_normal, Post.seq_pan]; try simp))
  refine C_read_at (j := j) h0 hI hs ?_
  simp [hg]
  repeat (first | (refine T_seqk fun K hK => ?_) | (refine T_reg tOK rfl ?_; simp) | (refine T_ret ?_; try simp) | (refine T_skip ?_; try simp) | (refine T_blockk fun K hK => ?_) | (with_reducible apply_assumption -exfalso -symm) | (rw [afterRF_ret]; simp) | (refine T_exit ?_; try simp) | (refine T_cond_t ?_ ?_; · (simp; done)) | (refine T_cond_f ?_ ?_; · (simp; done)) | (rintro _ _ (_ | _) hz9 <;> first | (simp; done) | (simp at hz9; done)) | (refine And.intro ?_ ?_) | (simp only [Post.block_ret, Post.block_exit, Post.block_normal, Post.block_pan, Post.seq_ret, Post.seq_exit, Post.seq_normal, Post.seq_pan]; try simp))
  refine C_get (b := f.b) (by have := hF.sz; omega) ?_
  repeat (first | (refine T_seqk fun K hK => ?_) | (refine T_reg tOK rfl ?_; simp) | (refine T_ret ?_; try simp) | (refine T_skip ?_; try simp) | (refine T_blockk fun K hK => ?_) | (with_reducible apply_assumption -exfalso -symm) | (rw [afterRF_ret]; simp) | (refine T_exit ?_; try simp) | (refine T_cond_t ?_ ?_; · (simp; done)) | (refine T_cond_f ?_ ?_; · (simp; done)) | (rintro _ _ (_ | _) hz9 <;> first | (simp; done) | (simp at hz9; done)) | (refine And.intro ?_ ?_) | (simp only [Post.block_ret, Post.block_exit, Post.block_normal, Post.block_pan, Post.seq_ret, Post.seq_exit, Post.seq_normal, Post.seq_pan]; try simp))
  ·exact .inl (by simp)
  ·simpa [frzT, frzN] using h
set_option maxHeartbeats 2000000 in
theorem C_swap (hI : Inv d) (hl : l.length < 1000000000) (h : R (.ret (i64 (manSwap d l).1)) (dkS (manSwap d l).2)) : C tE 10 [.ptr 0 0 0 [], .lit (is l)] (dkS d) R := by
 have hs : tmpN.size ≤ maxLen := by decide
 have hs2 : filN.size ≤ maxLen := by decide
 have h0 : DkAt (dkS d ++ [some (.cells 25 0 [.ptr 0 0 0 []]), some (.cells 23 0 [.lit (is l)]), some (.cells 30 0 [i64 0])]) 0 1 d := ⟨by decide, rfl, rfl⟩
 refine C_new tOK ?_
 unfold manSwap at h
 cases hok : okL l with
 | false =>
  rw [hok] at h
  refine C_bodyDk tOK Tryz.func10 rfl (Nat.le_of_ble_eq_true rfl) fun K hK => ?_; simp
  refine TZ_seqk fun K1 hK1 => TZ_of_T ?_
  simp
  repeat (first | (refine T_seqk fun K hK => ?_) | (refine T_reg tOK rfl ?_; simp) | (refine T_ret ?_; try simp) | (refine T_skip ?_; try simp) | (refine T_blockk fun K hK => ?_) | (with_reducible apply_assumption -exfalso -symm) | (rw [afterRF_ret]; simp) | (refine T_exit ?_; try simp) | (refine T_cond_t ?_ ?_; · (simp; done)) | (refine T_cond_f ?_ ?_; · (simp; done)) | (rintro _ _ (_ | _) hz9 <;> first | (simp; done) | (simp at hz9; done)) | (refine And.intro ?_ ?_) | (simp only [Post.block_ret, Post.block_exit, Post.block_normal, Post.block_pan, Post.seq_ret, Post.seq_exit, Post.seq_normal, Post.seq_pan]; try simp))
  refine TZ_seqk fun K1 hK1 => TZ_of_T ?_
  simp
  repeat (first | (refine T_seqk fun K hK => ?_) | (refine T_reg tOK rfl ?_; simp) | (refine T_ret ?_; try simp) | (refine T_skip ?_; try simp) | (refine T_blockk fun K hK => ?_) | (with_reducible apply_assumption -exfalso -symm) | (rw [afterRF_ret]; simp) | (refine T_exit ?_; try simp) | (refine T_cond_t ?_ ?_; · (simp; done)) | (refine T_cond_f ?_ ?_; · (simp; done)) | (rintro _ _ (_ | _) hz9 <;> first | (simp; done) | (simp at hz9; done)) | (refine And.intro ?_ ?_) | (simp only [Post.block_ret, Post.block_exit, Post.block_normal, Post.block_pan, Post.seq_ret, Post.seq_exit, Post.seq_normal, Post.seq_pan]; try simp))
  refine C_right hl ?_
  rw [hok]
  repeat (first | (refine T_seqk fun K hK => ?_) | (refine T_reg tOK rfl ?_; simp) | (refine T_ret ?_; try simp) | (refine T_skip ?_; try simp) | (refine T_blockk fun K hK => ?_) | (with_reducible apply_assumption -exfalso -symm) | (rw [afterRF_ret]; simp) | (refine T_exit ?_; try simp) | (refine T_cond_t ?_ ?_; · (simp; done)) | (refine T_cond_f ?_ ?_; · (simp; done)) | (rintro _ _ (_ | _) hz9 <;> first | (simp; done) | (simp at hz9; done)) | (refine And.intro ?_ ?_) | (simp only [Post.block_ret, Post.block_exit, Post.block_normal, Post.block_pan, Post.seq_ret, Post.seq_exit, Post.seq_normal, Post.seq_pan]; try simp))
  ·exact .inl (by simp)
  ·simpa [frzT, frzN] using h
 | true =>
  rw [hok, if_pos rfl] at h
  refine C_bodyDk tOK Tryz.func10 rfl (Nat.le_of_ble_eq_true rfl) fun K hK => ?_; simp
  refine TZ_seqk fun K1 hK1 => TZ_of_T ?_
  simp
  repeat (first | (refine T_seqk fun K hK => ?_) | (refine T_reg tOK rfl ?_; simp) | (refine T_ret ?_; try simp) | (refine T_skip ?_; try simp) | (refine T_blockk fun K hK => ?_) | (with_reducible apply_assumption -exfalso -symm) | (rw [afterRF_ret]; simp) | (refine T_exit ?_; try simp) | (refine T_cond_t ?_ ?_; · (simp; done)) | (refine T_cond_f ?_ ?_; · (simp; done)) | (rintro _ _ (_ | _) hz9 <;> first | (simp; done) | (simp at hz9; done)) | (refine And.intro ?_ ?_) | (simp only [Post.block_ret, Post.block_exit, Post.block_normal, Post.block_pan, Post.seq_ret, Post.seq_exit, Post.seq_normal, Post.seq_pan]; try simp))
  refine TZ_seqk fun K1 hK1 => TZ_of_T ?_
  simp
  repeat (first | (refine T_seqk fun K hK => ?_) | (refine T_reg tOK rfl ?_; simp) | (refine T_ret ?_; try simp) | (refine T_skip ?_; try simp) | (refine T_blockk fun K hK => ?_) | (with_reducible apply_assumption -exfalso -symm) | (rw [afterRF_ret]; simp) | (refine T_exit ?_; try simp) | (refine T_cond_t ?_ ?_; · (simp; done)) | (refine T_cond_f ?_ ?_; · (simp; done)) | (rintro _ _ (_ | _) hz9 <;> first | (simp; done) | (simp at hz9; done)) | (refine And.intro ?_ ?_) | (simp only [Post.block_ret, Post.block_exit, Post.block_normal, Post.block_pan, Post.seq_ret, Post.seq_exit, Post.seq_normal, Post.seq_pan]; try simp))
  refine C_right hl ?_
  rw [hok]
  repeat (first | (refine T_seqk fun K hK => ?_) | (refine T_reg tOK rfl ?_; simp) | (refine T_ret ?_; try simp) | (refine T_skip ?_; try simp) | (refine T_blockk fun K hK => ?_) | (with_reducible apply_assumption -exfalso -symm) | (rw [afterRF_ret]; simp) | (refine T_exit ?_; try simp) | (refine T_cond_t ?_ ?_; · (simp; done)) | (refine T_cond_f ?_ ?_; · (simp; done)) | (rintro _ _ (_ | _) hz9 <;> first | (simp; done) | (simp at hz9; done)) | (refine And.intro ?_ ?_) | (simp only [Post.block_ret, Post.block_exit, Post.block_normal, Post.block_pan, Post.seq_ret, Post.seq_exit, Post.seq_normal, Post.seq_pan]; try simp))
  refine TZ_seqk fun K3 hK3 => ?_
  have tail : PLift (∀ fr d1, Inv d1 → Fr.get fr 2 = some (.ptr 2 0 0 []) → Fr.get fr 3 = some (.ptr 3 0 0 []) → Fr.get fr 4 = some (.ptr 4 0 0 []) → R (.ret (i64 (manTurn d1 l).1)) (dkS (manTurn d1 l).2) →
    K3 [] fr (dkS d1 ++ [some (.cells 25 0 [.ptr 0 0 0 []]), some (.cells 23 0 [.lit (is l)]), some (.cells 30 0 [i64 0])])) := ⟨fun fr d1 hI1 g2 g3 g4 h => by
   apply hK3
   clear hK3
   refine TZ_seqk fun K4 hK4 => TZ_of_T ?_
   simp
   repeat (first | (refine T_seqk fun K hK => ?_) | (refine T_reg tOK rfl ?_; simp) | (refine T_ret ?_; try simp) | (refine T_skip ?_; try simp) | (refine T_blockk fun K hK => ?_) | (with_reducible apply_assumption -exfalso -symm) | (rw [afterRF_ret]; simp) | (refine T_exit ?_; try simp) | (refine T_cond_t ?_ ?_; · (simp; done)) | (refine T_cond_f ?_ ?_; · (simp; done)) | (rintro _ _ (_ | _) hz9 <;> first | (simp; done) | (simp at hz9; done)) | (refine And.intro ?_ ?_) | (simp only [Post.block_ret, Post.block_exit, Post.block_normal, Post.block_pan, Post.seq_ret, Post.seq_exit, Post.seq_normal, Post.seq_pan]; try simp))
   refine TZ_seqk fun K5 hK5 => TZ_reg tOK 1 rfl ?_
   simp [g2,g4]
   apply hK5
   clear hK5 hK4 K4 K5
   refine TZ_seqk fun K6 hK6 => TZ_of_T ?_
   simp
   have k1 : IntKind.i64.wrap 1 = 1 := by decide
   have k2 : IntKind.i64.wrap 2 = 2 := by decide
   have k3 : IntKind.i64.wrap 3 = 3 := by decide
   obtain ⟨e, d2, hw⟩ : ∃ e d2, write d1 tmpN (manPut l) = (e, d2) := ⟨_, _, rfl⟩
   have hI2 : Inv d2 := by have := hI1.write (s := tmpN) (b := manPut l); rw [hw] at this; exact this
   unfold manTurn at h
   rw [hw] at h
   repeat (first | (refine T_seqk fun K hK => ?_) | (refine T_reg tOK rfl ?_; simp [g2,g3,g4]) | (refine T_ret ?_; try simp) | (refine T_skip ?_; try simp) | (refine T_blockk fun K hK => ?_) | (with_reducible apply_assumption -exfalso -symm) | (rw [afterRF_ret]; simp [g2,g3,g4]) | (refine T_exit ?_; try simp) | (refine T_cond_t ?_ ?_; · (simp; done)) | (refine T_cond_f ?_ ?_; · (simp; done)) | (rintro _ _ (_ | _) hz9 <;> first | (simp; done) | (simp at hz9; done)) | (refine And.intro ?_ ?_) | (simp only [Post.block_ret, Post.block_exit, Post.block_normal, Post.block_pan, Post.seq_ret, Post.seq_exit, Post.seq_normal, Post.seq_pan]; try simp [g2,g3,g4]))
   refine C_bodyk tOK Tryz.func41 rfl (Nat.le_of_ble_eq_true rfl) fun K hK => ?_; simp
   repeat (first | (refine T_seqk fun K hK => ?_) | (refine T_reg tOK rfl ?_; simp) | (refine T_ret ?_; try simp) | (refine T_skip ?_; try simp) | (refine T_blockk fun K hK => ?_) | (with_reducible apply_assumption -exfalso -symm) | (rw [afterRF_ret]; simp) | (refine T_exit ?_; try simp) | (refine T_cond_t ?_ ?_; · (simp; done)) | (refine T_cond_f ?_ ?_; · (simp; done)) | (rintro _ _ (_ | _) hz9 <;> first | (simp; done) | (simp at hz9; done)) | (refine And.intro ?_ ?_) | (simp only [Post.block_ret, Post.block_exit, Post.block_normal, Post.block_pan, Post.seq_ret, Post.seq_exit, Post.seq_normal, Post.seq_pan]; try simp))
   refine T_loop (TL_round ?_)
   repeat (first | (refine T_seqk fun K hK => ?_) | (refine T_reg tOK rfl ?_; simp) | (refine T_ret ?_; try simp) | (refine T_skip ?_; try simp) | (refine T_blockk fun K hK => ?_) | (with_reducible apply_assumption -exfalso -symm) | (rw [afterRF_ret]; simp) | (refine T_exit ?_; try simp) | (refine T_cond_t ?_ ?_; · (simp; done)) | (refine T_cond_f ?_ ?_; · (simp; done)) | (rintro _ _ (_ | _) hz9 <;> first | (simp; done) | (simp at hz9; done)) | (refine And.intro ?_ ?_) | (simp only [Post.block_ret, Post.block_exit, Post.block_normal, Post.block_pan, Post.seq_ret, Post.seq_exit, Post.seq_normal, Post.seq_pan]; try simp) | (refine T_draw tOK tmix [([], 0), ([], 1), ([1], 2), ([0, 1, 2], 3), ([0, 1, 2, 3], 4)] 3 (by decide +kernel) ?_; simp) | (refine C_bodyk tOK Tryz.func42 rfl (Nat.le_of_ble_eq_true rfl) fun K hK => ?_; simp))
   refine RD_call (rd := []) (fun τ _ => C_put hl ⟨rfl, rfl⟩) ?_
   simp
   refine C_write_at (j := 1) (d := d1) ⟨by decide, rfl, rfl⟩ hI1 hs ?_
   rw [hw]
   simp [dkPut, dkBj, dkM]
   cases hz : (e == 0) with
   | false =>
    have hz' : bne e 0 = true := by simp [bne, hz]
    have hzp : (e = 0) = False := by simpa using hz
    simp [hz,hzp] at h
    unfold manUndo at h
    repeat (first | (refine T_seqk fun K hK => ?_) | (refine T_reg tOK rfl ?_; simp [hz',g2,g4]) | (refine T_ret ?_; try simp) | (refine T_skip ?_; try simp) | (refine T_blockk fun K hK => ?_) | (with_reducible apply_assumption -exfalso -symm) | (rw [afterRF_ret]; simp [hz',g2,g4]) | (refine T_exit ?_; try simp) | (refine T_cond_t ?_ ?_; · (simp; done)) | (refine T_cond_f ?_ ?_; · (simp; done)) | (rintro _ _ (_ | _) hz9 <;> first | (simp; done) | (simp at hz9; done)) | (refine And.intro ?_ ?_) | (simp only [Post.block_ret, Post.block_exit, Post.block_normal, Post.block_pan, Post.seq_ret, Post.seq_exit, Post.seq_normal, Post.seq_pan]; try simp [hz',g2,g4]))
    refine TZ_of_T (T_ret ?_)
    simp [g2,g4]
    refine CD_bodyk tOK Tryz.func40 rfl (Nat.le_of_ble_eq_true rfl) fun R' hR' => ?_
    simp
    cases h42 : (e == 42) with
    | true =>
     have h42' : bne e 42 = false := by simp [bne, h42]
     simp [h42] at h
     repeat (first | (refine T_seqk fun K hK => ?_) | (refine T_reg tOK rfl ?_; simp [h42',g2,g4]) | (refine T_ret ?_; try simp) | (refine T_skip ?_; try simp) | (refine T_blockk fun K hK => ?_) | (with_reducible apply_assumption -exfalso -symm) | (rw [afterRF_ret]; simp [h42',g2,g4]) | (refine T_exit ?_; try simp) | (refine T_cond_t ?_ ?_; · (simp; done)) | (refine T_cond_f ?_ ?_; · (simp; done)) | (rintro _ _ (_ | _) hz9 <;> first | (simp; done) | (simp at hz9; done)) | (refine And.intro ?_ ?_) | (simp only [Post.block_ret, Post.block_exit, Post.block_normal, Post.block_pan, Post.seq_ret, Post.seq_exit, Post.seq_normal, Post.seq_pan]; try simp [h42',g2,g4]))
     ·exact .inr (dkS_all d2)
     ·simpa [frzT, frzN] using h
    | false =>
     have h42' : bne e 42 = true := by simp [bne, h42]
     simp [h42] at h
     repeat (first | (refine T_seqk fun K hK => ?_) | (refine T_reg tOK rfl ?_; simp [h42',g2,g4]) | (refine T_ret ?_; try simp) | (refine T_skip ?_; try simp) | (refine T_blockk fun K hK => ?_) | (with_reducible apply_assumption -exfalso -symm) | (rw [afterRF_ret]; simp [h42',g2,g4]) | (refine T_exit ?_; try simp) | (refine T_cond_t ?_ ?_; · (simp; done)) | (refine T_cond_f ?_ ?_; · (simp; done)) | (rintro _ _ (_ | _) hz9 <;> first | (simp; done) | (simp at hz9; done)) | (refine And.intro ?_ ?_) | (simp only [Post.block_ret, Post.block_exit, Post.block_normal, Post.block_pan, Post.seq_ret, Post.seq_exit, Post.seq_normal, Post.seq_pan]; try simp [h42',g2,g4]))
     refine C_delete_at (j := 1) (d := d2) ⟨by decide, rfl, rfl⟩ hI2 hs ?_
     simp [dkPut, dkBj, dkM]
     repeat (first | (refine T_seqk fun K hK => ?_) | (refine T_reg tOK rfl ?_; simp [h42',g2,g4]) | (refine T_ret ?_; try simp) | (refine T_skip ?_; try simp) | (refine T_blockk fun K hK => ?_) | (with_reducible apply_assumption -exfalso -symm) | (rw [afterRF_ret]; simp [h42',g2,g4]) | (refine T_exit ?_; try simp) | (refine T_cond_t ?_ ?_; · (simp; done)) | (refine T_cond_f ?_ ?_; · (simp; done)) | (rintro _ _ (_ | _) hz9 <;> first | (simp; done) | (simp at hz9; done)) | (refine And.intro ?_ ?_) | (simp only [Post.block_ret, Post.block_exit, Post.block_normal, Post.block_pan, Post.seq_ret, Post.seq_exit, Post.seq_normal, Post.seq_pan]; try simp [h42',g2,g4]))
     ·exact .inr (dkS_all (delete d2 tmpN).2)
     ·simpa [frzT, frzN] using h
   | true =>
    have hz' : bne e 0 = false := by simp [bne, hz]
    have hzp : (e = 0) = True := by simpa using hz
    simp [hz,hzp] at h
    repeat (first | (refine T_seqk fun K hK => ?_) | (refine T_reg tOK rfl ?_; simp [hz',g2,g4,k1,k2,k3]) | (refine T_ret ?_; try simp) | (refine T_skip ?_; try simp) | (refine T_blockk fun K hK => ?_) | (with_reducible apply_assumption -exfalso -symm) | (rw [afterRF_ret]; simp [hz',g2,g4,k1,k2,k3]) | (refine T_exit ?_; try simp) | (refine T_cond_t ?_ ?_; · (simp; done)) | (refine T_cond_f ?_ ?_; · (simp; done)) | (rintro _ _ (_ | _) hz9 <;> first | (simp; done) | (simp at hz9; done)) | (refine And.intro ?_ ?_) | (simp only [Post.block_ret, Post.block_exit, Post.block_normal, Post.block_pan, Post.seq_ret, Post.seq_exit, Post.seq_normal, Post.seq_pan]; try simp [hz',g2,g4,k1,k2,k3]))
    obtain ⟨e2, d3, hw2⟩ : ∃ e2 d3, sync d2 tmpN = (e2, d3) := ⟨_, _, rfl⟩
    have hI3 : Inv d3 := by have := hI2.sync (s := tmpN); rw [hw2] at this; exact this
    rw [hw2] at h
    refine TL_round ?_
    repeat (first | (refine T_seqk fun K hK => ?_) | (refine T_reg tOK rfl ?_; simp [k1,k2,k3]) | (refine T_ret ?_; try simp) | (refine T_skip ?_; try simp) | (refine T_blockk fun K hK => ?_) | (with_reducible apply_assumption -exfalso -symm) | (rw [afterRF_ret]; simp [k1,k2,k3]) | (refine T_exit ?_; try simp) | (refine T_cond_t ?_ ?_; · (simp; done)) | (refine T_cond_f ?_ ?_; · (simp; done)) | (rintro _ _ (_ | _) hz9 <;> first | (simp; done) | (simp at hz9; done)) | (refine And.intro ?_ ?_) | (simp only [Post.block_ret, Post.block_exit, Post.block_normal, Post.block_pan, Post.seq_ret, Post.seq_exit, Post.seq_normal, Post.seq_pan]; try simp [k1,k2,k3]) | (refine C_bodyk tOK Tryz.func43 rfl (Nat.le_of_ble_eq_true rfl) fun K hK => ?_; simp))
    refine C_sync_at (j := 1) (d := d2) ⟨by decide, rfl, rfl⟩ hI2 hs ?_
    rw [hw2]
    simp [dkPut, dkBj, dkM]
    cases hz : (e2 == 0) with
    | false =>
     have hz' : bne e2 0 = true := by simp [bne, hz]
     have hzp : (e2 = 0) = False := by simpa using hz
     simp [hz,hzp] at h
     unfold manUndo at h
     repeat (first | (refine T_seqk fun K hK => ?_) | (refine T_reg tOK rfl ?_; simp [hz',g2,g4]) | (refine T_ret ?_; try simp) | (refine T_skip ?_; try simp) | (refine T_blockk fun K hK => ?_) | (with_reducible apply_assumption -exfalso -symm) | (rw [afterRF_ret]; simp [hz',g2,g4]) | (refine T_exit ?_; try simp) | (refine T_cond_t ?_ ?_; · (simp; done)) | (refine T_cond_f ?_ ?_; · (simp; done)) | (rintro _ _ (_ | _) hz9 <;> first | (simp; done) | (simp at hz9; done)) | (refine And.intro ?_ ?_) | (simp only [Post.block_ret, Post.block_exit, Post.block_normal, Post.block_pan, Post.seq_ret, Post.seq_exit, Post.seq_normal, Post.seq_pan]; try simp [hz',g2,g4]))
     refine TZ_of_T (T_ret ?_)
     simp [g2,g4]
     refine CD_bodyk tOK Tryz.func40 rfl (Nat.le_of_ble_eq_true rfl) fun R' hR' => ?_
     simp
     cases h42 : (e2 == 42) with
     | true =>
      have h42' : bne e2 42 = false := by simp [bne, h42]
      simp [h42] at h
      repeat (first | (refine T_seqk fun K hK => ?_) | (refine T_reg tOK rfl ?_; simp [h42',g2,g4]) | (refine T_ret ?_; try simp) | (refine T_skip ?_; try simp) | (refine T_blockk fun K hK => ?_) | (with_reducible apply_assumption -exfalso -symm) | (rw [afterRF_ret]; simp [h42',g2,g4]) | (refine T_exit ?_; try simp) | (refine T_cond_t ?_ ?_; · (simp; done)) | (refine T_cond_f ?_ ?_; · (simp; done)) | (rintro _ _ (_ | _) hz9 <;> first | (simp; done) | (simp at hz9; done)) | (refine And.intro ?_ ?_) | (simp only [Post.block_ret, Post.block_exit, Post.block_normal, Post.block_pan, Post.seq_ret, Post.seq_exit, Post.seq_normal, Post.seq_pan]; try simp [h42',g2,g4]))
      ·exact .inr (dkS_all d3)
      ·simpa [frzT, frzN] using h
     | false =>
      have h42' : bne e2 42 = true := by simp [bne, h42]
      simp [h42] at h
      repeat (first | (refine T_seqk fun K hK => ?_) | (refine T_reg tOK rfl ?_; simp [h42',g2,g4]) | (refine T_ret ?_; try simp) | (refine T_skip ?_; try simp) | (refine T_blockk fun K hK => ?_) | (with_reducible apply_assumption -exfalso -symm) | (rw [afterRF_ret]; simp [h42',g2,g4]) | (refine T_exit ?_; try simp) | (refine T_cond_t ?_ ?_; · (simp; done)) | (refine T_cond_f ?_ ?_; · (simp; done)) | (rintro _ _ (_ | _) hz9 <;> first | (simp; done) | (simp at hz9; done)) | (refine And.intro ?_ ?_) | (simp only [Post.block_ret, Post.block_exit, Post.block_normal, Post.block_pan, Post.seq_ret, Post.seq_exit, Post.seq_normal, Post.seq_pan]; try simp [h42',g2,g4]))
      refine C_delete_at (j := 1) (d := d3) ⟨by decide, rfl, rfl⟩ hI3 hs ?_
      simp [dkPut, dkBj, dkM]
      repeat (first | (refine T_seqk fun K hK => ?_) | (refine T_reg tOK rfl ?_; simp [h42',g2,g4]) | (refine T_ret ?_; try simp) | (refine T_skip ?_; try simp) | (refine T_blockk fun K hK => ?_) | (with_reducible apply_assumption -exfalso -symm) | (rw [afterRF_ret]; simp [h42',g2,g4]) | (refine T_exit ?_; try simp) | (refine T_cond_t ?_ ?_; · (simp; done)) | (refine T_cond_f ?_ ?_; · (simp; done)) | (rintro _ _ (_ | _) hz9 <;> first | (simp; done) | (simp at hz9; done)) | (refine And.intro ?_ ?_) | (simp only [Post.block_ret, Post.block_exit, Post.block_normal, Post.block_pan, Post.seq_ret, Post.seq_exit, Post.seq_normal, Post.seq_pan]; try simp [h42',g2,g4]))
      ·exact .inr (dkS_all (delete d3 tmpN).2)
      ·simpa [frzT, frzN] using h
    | true =>
     have hz' : bne e2 0 = false := by simp [bne, hz]
     have hzp : (e2 = 0) = True := by simpa using hz
     simp [hz,hzp] at h
     repeat (first | (refine T_seqk fun K hK => ?_) | (refine T_reg tOK rfl ?_; simp [hz',g2,g4,k1,k2,k3]) | (refine T_ret ?_; try simp) | (refine T_skip ?_; try simp) | (refine T_blockk fun K hK => ?_) | (with_reducible apply_assumption -exfalso -symm) | (rw [afterRF_ret]; simp [hz',g2,g4,k1,k2,k3]) | (refine T_exit ?_; try simp) | (refine T_cond_t ?_ ?_; · (simp; done)) | (refine T_cond_f ?_ ?_; · (simp; done)) | (rintro _ _ (_ | _) hz9 <;> first | (simp; done) | (simp at hz9; done)) | (refine And.intro ?_ ?_) | (simp only [Post.block_ret, Post.block_exit, Post.block_normal, Post.block_pan, Post.seq_ret, Post.seq_exit, Post.seq_normal, Post.seq_pan]; try simp [hz',g2,g4,k1,k2,k3]))
     refine TL_round ?_
     repeat (first | (refine T_seqk fun K hK => ?_) | (refine T_reg tOK rfl ?_; simp [k1,k2,k3]) | (refine T_ret ?_; try simp) | (refine T_skip ?_; try simp) | (refine T_blockk fun K hK => ?_) | (with_reducible apply_assumption -exfalso -symm) | (rw [afterRF_ret]; simp [k1,k2,k3]) | (refine T_exit ?_; try simp) | (refine T_cond_t ?_ ?_; · (simp; done)) | (refine T_cond_f ?_ ?_; · (simp; done)) | (rintro _ _ (_ | _) hz9 <;> first | (simp; done) | (simp at hz9; done)) | (refine And.intro ?_ ?_) | (simp only [Post.block_ret, Post.block_exit, Post.block_normal, Post.block_pan, Post.seq_ret, Post.seq_exit, Post.seq_normal, Post.seq_pan]; try simp [k1,k2,k3]) | (refine C_bodyk tOK Tryz.func44 rfl (Nat.le_of_ble_eq_true rfl) fun K hK => ?_; simp))
     obtain ⟨e3, d4, hw3⟩ : ∃ e3 d4, rename d3 tmpN filN = (e3, d4) := ⟨_, _, rfl⟩
     rw [hw3] at h
     refine C_rename_at (j := 1) (d := d3) ⟨by decide, rfl, rfl⟩ hI3 hs ?_
     rw [hw3]
     simp [dkPut, dkBj, dkM]
     cases hz3 : (e3 == 0) with
     | false =>
      have hz3' : bne e3 0 = true := by simp [bne, hz3]
      repeat (first | (refine T_seqk fun K hK => ?_) | (refine T_reg tOK rfl ?_; simp [hz3',g2,g4,k1,k2,k3]) | (refine T_ret ?_; try simp) | (refine T_skip ?_; try simp) | (refine T_blockk fun K hK => ?_) | (with_reducible apply_assumption -exfalso -symm) | (rw [afterRF_ret]; simp [hz3',g2,g4,k1,k2,k3]) | (refine T_exit ?_; try simp) | (refine T_cond_t ?_ ?_; · (simp; done)) | (refine T_cond_f ?_ ?_; · (simp; done)) | (rintro _ _ (_ | _) hz9 <;> first | (simp; done) | (simp at hz9; done)) | (refine And.intro ?_ ?_) | (simp only [Post.block_ret, Post.block_exit, Post.block_normal, Post.block_pan, Post.seq_ret, Post.seq_exit, Post.seq_normal, Post.seq_pan]; try simp [hz3',g2,g4,k1,k2,k3]))
      refine TZ_of_T (T_ret ?_)
      simp [g2,g4]
      refine CD_bodyk tOK Tryz.func40 rfl (Nat.le_of_ble_eq_true rfl) fun R' hR' => ?_
      simp
      repeat (first | (refine T_seqk fun K hK => ?_) | (refine T_reg tOK rfl ?_; simp [g2,g4]) | (refine T_ret ?_; try simp) | (refine T_skip ?_; try simp) | (refine T_blockk fun K hK => ?_) | (with_reducible apply_assumption -exfalso -symm) | (rw [afterRF_ret]; simp [g2,g4]) | (refine T_exit ?_; try simp) | (refine T_cond_t ?_ ?_; · (simp; done)) | (refine T_cond_f ?_ ?_; · (simp; done)) | (rintro _ _ (_ | _) hz9 <;> first | (simp; done) | (simp at hz9; done)) | (refine And.intro ?_ ?_) | (simp only [Post.block_ret, Post.block_exit, Post.block_normal, Post.block_pan, Post.seq_ret, Post.seq_exit, Post.seq_normal, Post.seq_pan]; try simp [g2,g4]))
      ·exact .inr (dkS_all d4)
      ·simpa [frzT, frzN] using h
     | true =>
      have hz3' : bne e3 0 = false := by simp [bne, hz3]
      have e0 : e3 = 0 := by simpa using hz3
      subst e0
      repeat (first | (refine T_seqk fun K hK => ?_) | (refine T_reg tOK rfl ?_; simp [hz3',g2,g4,k1,k2,k3]) | (refine T_ret ?_; try simp) | (refine T_skip ?_; try simp) | (refine T_blockk fun K hK => ?_) | (with_reducible apply_assumption -exfalso -symm) | (rw [afterRF_ret]; simp [hz3',g2,g4,k1,k2,k3]) | (refine T_exit ?_; try simp) | (refine T_cond_t ?_ ?_; · (simp; done)) | (refine T_cond_f ?_ ?_; · (simp; done)) | (rintro _ _ (_ | _) hz9 <;> first | (simp; done) | (simp at hz9; done)) | (refine And.intro ?_ ?_) | (simp only [Post.block_ret, Post.block_exit, Post.block_normal, Post.block_pan, Post.seq_ret, Post.seq_exit, Post.seq_normal, Post.seq_pan]; try simp [hz3',g2,g4,k1,k2,k3]))
      refine TL_round ?_
      repeat (first | (refine T_seqk fun K hK => ?_) | (refine T_reg tOK rfl ?_; simp [g2,g4,k1,k2,k3]) | (refine T_ret ?_; try simp) | (refine T_skip ?_; try simp) | (refine T_blockk fun K hK => ?_) | (with_reducible apply_assumption -exfalso -symm) | (rw [afterRF_ret]; simp [g2,g4,k1,k2,k3]) | (refine T_exit ?_; try simp) | (refine T_cond_t ?_ ?_; · (simp; done)) | (refine T_cond_f ?_ ?_; · (simp; done)) | (rintro _ _ (_ | _) hz9 <;> first | (simp; done) | (simp at hz9; done)) | (refine And.intro ?_ ?_) | (simp only [Post.block_ret, Post.block_exit, Post.block_normal, Post.block_pan, Post.seq_ret, Post.seq_exit, Post.seq_normal, Post.seq_pan]; try simp [g2,g4,k1,k2,k3]))
      refine TZ_of_T (T_ret ?_)
      simp [g2,g4]
      refine CD_bodyk tOK Tryz.func40 rfl (Nat.le_of_ble_eq_true rfl) fun R' hR' => ?_
      simp
      repeat (first | (refine T_seqk fun K hK => ?_) | (refine T_reg tOK rfl ?_; simp [g2,g4]) | (refine T_ret ?_; try simp) | (refine T_skip ?_; try simp) | (refine T_blockk fun K hK => ?_) | (with_reducible apply_assumption -exfalso -symm) | (rw [afterRF_ret]; simp [g2,g4]) | (refine T_exit ?_; try simp) | (refine T_cond_t ?_ ?_; · (simp; done)) | (refine T_cond_f ?_ ?_; · (simp; done)) | (rintro _ _ (_ | _) hz9 <;> first | (simp; done) | (simp at hz9; done)) | (refine And.intro ?_ ?_) | (simp only [Post.block_ret, Post.block_exit, Post.block_normal, Post.block_pan, Post.seq_ret, Post.seq_exit, Post.seq_normal, Post.seq_pan]; try simp [g2,g4]))
      ·exact .inr (dkS_all d4)
      ·simpa [frzT, frzN] using h
   ⟩
  clear hK3
  cases hg : dget tmpN.data.toList d.files with
  | none =>
   rw [hg] at h
   refine TZ_of_T ?_
   simp
   repeat (first | (refine T_seqk fun K hK => ?_) | (refine T_reg tOK rfl ?_; simp) | (refine T_ret ?_; try simp) | (refine T_skip ?_; try simp) | (refine T_blockk fun K hK => ?_) | (with_reducible apply_assumption -exfalso -symm) | (rw [afterRF_ret]; simp) | (refine T_exit ?_; try simp) | (refine T_cond_t ?_ ?_; · (simp; done)) | (refine T_cond_f ?_ ?_; · (simp; done)) | (rintro _ _ (_ | _) hz9 <;> first | (simp; done) | (simp at hz9; done)) | (refine And.intro ?_ ?_) | (simp only [Post.block_ret, Post.block_exit, Post.block_normal, Post.block_pan, Post.seq_ret, Post.seq_exit, Post.seq_normal, Post.seq_pan]; try simp))
   refine C_read_at (j := 1) h0 hI hs ?_
   simp [hg]
   repeat (first | (refine T_seqk fun K hK => ?_) | (refine T_reg tOK rfl ?_; simp) | (refine T_ret ?_; try simp) | (refine T_skip ?_; try simp) | (refine T_blockk fun K hK => ?_) | (with_reducible apply_assumption -exfalso -symm) | (rw [afterRF_ret]; simp) | (refine T_exit ?_; try simp) | (refine T_cond_t ?_ ?_; · (simp; done)) | (refine T_cond_f ?_ ?_; · (simp; done)) | (rintro _ _ (_ | _) hz9 <;> first | (simp; done) | (simp at hz9; done)) | (refine And.intro ?_ ?_) | (simp only [Post.block_ret, Post.block_exit, Post.block_normal, Post.block_pan, Post.seq_ret, Post.seq_exit, Post.seq_normal, Post.seq_pan]; try simp))
   exact tail.down _ d hI rfl rfl rfl (by simpa using h)
  | some f =>
   rw [hg] at h
   obtain ⟨e, d1, he⟩ : ∃ e d1, delete d tmpN = (e, d1) := ⟨_, _, rfl⟩
   have hI1 : Inv d1 := by have := hI.delete (s := tmpN); rw [he] at this; exact this
   rw [he] at h
   refine TZ_of_T ?_
   simp
   repeat (first | (refine T_seqk fun K hK => ?_) | (refine T_reg tOK rfl ?_; simp) | (refine T_ret ?_; try simp) | (refine T_skip ?_; try simp) | (refine T_blockk fun K hK => ?_) | (with_reducible apply_assumption -exfalso -symm) | (rw [afterRF_ret]; simp) | (refine T_exit ?_; try simp) | (refine T_cond_t ?_ ?_; · (simp; done)) | (refine T_cond_f ?_ ?_; · (simp; done)) | (rintro _ _ (_ | _) hz9 <;> first | (simp; done) | (simp at hz9; done)) | (refine And.intro ?_ ?_) | (simp only [Post.block_ret, Post.block_exit, Post.block_normal, Post.block_pan, Post.seq_ret, Post.seq_exit, Post.seq_normal, Post.seq_pan]; try simp))
   refine C_read_at (j := 1) h0 hI hs ?_
   simp [hg]
   repeat (first | (refine T_seqk fun K hK => ?_) | (refine T_reg tOK rfl ?_; simp) | (refine T_ret ?_; try simp) | (refine T_skip ?_; try simp) | (refine T_blockk fun K hK => ?_) | (with_reducible apply_assumption -exfalso -symm) | (rw [afterRF_ret]; simp) | (refine T_exit ?_; try simp) | (refine T_cond_t ?_ ?_; · (simp; done)) | (refine T_cond_f ?_ ?_; · (simp; done)) | (rintro _ _ (_ | _) hz9 <;> first | (simp; done) | (simp at hz9; done)) | (refine And.intro ?_ ?_) | (simp only [Post.block_ret, Post.block_exit, Post.block_normal, Post.block_pan, Post.seq_ret, Post.seq_exit, Post.seq_normal, Post.seq_pan]; try simp))
   refine C_delete_at (j := 1) h0 hI hs ?_
   rw [he]
   cases hz : (e == 0) with
   | true =>
    have hz' : bne e 0 = false := by simp [bne, hz]
    have hzp : (e = 0) = True := by simpa using hz
    simp [hz,hzp] at h
    simp [dkPut, dkBj, dkM]
    repeat (first | (refine T_seqk fun K hK => ?_) | (refine T_reg tOK rfl ?_; simp [hz']) | (refine T_ret ?_; try simp) | (refine T_skip ?_; try simp) | (refine T_blockk fun K hK => ?_) | (with_reducible apply_assumption -exfalso -symm) | (rw [afterRF_ret]; simp [hz']) | (refine T_exit ?_; try simp) | (refine T_cond_t ?_ ?_; · (simp; done)) | (refine T_cond_f ?_ ?_; · (simp; done)) | (rintro _ _ (_ | _) hz9 <;> first | (simp; done) | (simp at hz9; done)) | (refine And.intro ?_ ?_) | (simp only [Post.block_ret, Post.block_exit, Post.block_normal, Post.block_pan, Post.seq_ret, Post.seq_exit, Post.seq_normal, Post.seq_pan]; try simp [hz']))
    exact tail.down _ d1 hI1 rfl rfl rfl h
   | false =>
    have hz' : bne e 0 = true := by simp [bne, hz]
    have hzp : (e = 0) = False := by simpa using hz
    simp [hz,hzp] at h
    simp [dkPut, dkBj, dkM]
    clear tail
    repeat (first | (refine T_seqk fun K hK => ?_) | (refine T_reg tOK rfl ?_; simp [hz']) | (refine T_ret ?_; try simp) | (refine T_skip ?_; try simp) | (refine T_blockk fun K hK => ?_) | (with_reducible apply_assumption -exfalso -symm) | (rw [afterRF_ret]; simp [hz']) | (refine T_exit ?_; try simp) | (refine T_cond_t ?_ ?_; · (simp; done)) | (refine T_cond_f ?_ ?_; · (simp; done)) | (rintro _ _ (_ | _) hz9 <;> first | (simp; done) | (simp at hz9; done)) | (refine And.intro ?_ ?_) | (simp only [Post.block_ret, Post.block_exit, Post.block_normal, Post.block_pan, Post.seq_ret, Post.seq_exit, Post.seq_normal, Post.seq_pan]; try simp [hz']))
    ·exact .inr (dkS_all d1)
    ·simpa [frzT, frzN] using h
end
end Go.Proofs.YtdplbgfokoajjaaGreat
end
section
set_option linter.unusedVariables false
set_option linter.unusedSimpArgs false
set_option maxRecDepth 20000
namespace Go.Proofs.YtdplbgfokoajjaaGreat
open Go
attribute [local simp] RF_nil RF_cons afterRF_ret nilCmp sop sGuard isCall sCallee Fr.eval Fr.get Fr.put ofConst sLoad sStore sBuiltin Fr.args bodyQ sRes oneOf sBin sInt sUn
attribute [local simp] RD_nil RD_cons noConf clear accAdd Tab.pr Tab.slot foot wid idOf refId Op.operands Call.operands sFieldAddr sNilCheck sLookup keyLit sMapSet sMapDel sLen Store.at Store.new getP setP typeAt fits evalParts sBuildSlice sFill sList sApp sAppend frzRe frz pureB pureL
attribute [local simp] optEval sSlice sIndexAddr xop sClear
section
variable {R : Re → Store → Prop} {σ : Store} {d : Dk} {i j : Nat} {l : List Int}
theorem C_swap_at (h0 : DkAt σ i j d) (hI : Inv d) (hl : l.length < 1000000000) (h : R (.ret (i64 (manSwap d l).1)) (dkPut σ i j (manSwap d l).2)) : C tE 10 [.ptr i 0 0 [], .lit (is l)] σ R :=
 C_at (args := [.ptr 0 0 0 [], .lit (is l)]) h0 rfl (fun R h => C_swap hI hl h) (fun τ => rfl) h
theorem Inv.turn {d : Dk} (h : Inv d) {l : List Int} : Inv (manTurn d l).2 := by
 unfold manTurn manUndo
 simp only
 split
 ·split
  ·exact h.write.sync.rename
  ·split
   ·exact h.write.sync
   ·exact h.write.sync.delete
 ·split
  ·exact h.write
  ·exact h.write.delete
theorem Inv.swap {d : Dk} (h : Inv d) {l : List Int} : Inv (manSwap d l).2 := by
 unfold manSwap
 simp only
 split
 ·split
  ·split
   ·exact h.delete.turn
   ·exact h.delete
  ·exact h.turn
 ·exact h
theorem C_samei {a b : List Int} (ha : a.length < 1000000000) (hb : b.length < 1000000000) (h : R (.ret (.bool (a == b))) σ) : C tE 14 [.lit (is a), .lit (is b)] σ R := by
 have hla := is_len a
 have hlb := is_len b
 refine C_pure tOK (by simp [pureL_is]) ?_
 cases hn : bne (a.length : Int) (b.length : Int) with
 | true =>
  have : (a == b) = false := by
   rw [beq_eq_false_iff_ne]; rintro rfl; simp at hn
  rw [this] at h
  refine C_bodyk tOK Tryz.func14 rfl (Nat.le_of_ble_eq_true rfl) fun K hK => ?_; simp
  repeat (first | (refine T_seqk fun K hK => ?_) | (refine T_reg tOK rfl ?_; simp [hla,hlb,hn]) | (refine T_ret ?_; try simp) | (refine T_skip ?_; try simp) | (refine T_blockk fun K hK => ?_) | (with_reducible apply_assumption -exfalso -symm) | (rw [afterRF_ret]; simp [hla,hlb,hn]) | (refine T_exit ?_; try simp) | (refine T_cond_t ?_ ?_; · (simp; done)) | (refine T_cond_f ?_ ?_; · (simp; done)) | (rintro _ _ (_ | _) hz9 <;> first | (simp; done) | (simp at hz9; done)) | (refine And.intro ?_ ?_) | (simp only [Post.block_ret, Post.block_exit, Post.block_normal, Post.block_pan, Post.seq_ret, Post.seq_exit, Post.seq_normal, Post.seq_pan]; try simp [hla,hlb,hn]) | (refine T_draw tOK tmix [([], 0), ([], 1), ([0, 1], 2), ([0, 1, 2], 3), ([], 4), ([], 5), ([4, 5], 6), ([4, 5, 6], 7), ([0, 1, 2, 3, 4, 5, 6, 7], 8)] 8 (by decide +kernel) ?_; simp [hla,hlb,hn]))
 | false =>
  have hlen : a.length = b.length := by simp at hn; omega
  refine C_bodyk tOK Tryz.func14 rfl (Nat.le_of_ble_eq_true rfl) fun K hK => ?_; simp
  repeat (first | (refine T_seqk fun K hK => ?_) | (refine T_reg tOK rfl ?_; simp [hla,hlb,hn]) | (refine T_ret ?_; try simp) | (refine T_skip ?_; try simp) | (refine T_blockk fun K hK => ?_) | (with_reducible apply_assumption -exfalso -symm) | (rw [afterRF_ret]; simp [hla,hlb,hn]) | (refine T_exit ?_; try simp) | (refine T_cond_t ?_ ?_; · (simp; done)) | (refine T_cond_f ?_ ?_; · (simp; done)) | (rintro _ _ (_ | _) hz9 <;> first | (simp; done) | (simp at hz9; done)) | (refine And.intro ?_ ?_) | (simp only [Post.block_ret, Post.block_exit, Post.block_normal, Post.block_pan, Post.seq_ret, Post.seq_exit, Post.seq_normal, Post.seq_pan]; try simp [hla,hlb,hn]) | (refine T_draw tOK tmix [([], 0), ([], 1), ([0, 1], 2), ([0, 1, 2], 3), ([], 4), ([], 5), ([4, 5], 6), ([4, 5, 6], 7), ([0, 1, 2, 3, 4, 5, 6, 7], 8)] 8 (by decide +kernel) ?_; simp [hla,hlb,hn]))
  refine T_loop ?_
  refine TL_keep [0, 1, 5] ?_
  simp [Fr.keep]
  refine TL_st a.length (fun k fr σ => fr = [(0, .lit (is a)), (1, .lit (is b)), (5, i64 k)] ∧ σ = [] ∧ a.take k = b.take k) ?_ ?_ ⟨rfl, rfl, by simp⟩
  ·rintro fr σ ⟨rfl, rfl, hp⟩
   rw [List.take_length, hlen, List.take_length] at hp
   subst hp
   simp at h
   refine TL_round ?_
   repeat (first | (refine T_seqk fun K hK => ?_) | (refine T_reg tOK rfl ?_; simp [hla]) | (refine T_ret ?_; try simp) | (refine T_skip ?_; try simp) | (refine T_blockk fun K hK => ?_) | (with_reducible apply_assumption -exfalso -symm) | (rw [afterRF_ret]; simp [hla]) | (refine T_exit ?_; try simp) | (refine T_cond_t ?_ ?_; · (simp; done)) | (refine T_cond_f ?_ ?_; · (simp; done)) | (rintro _ _ (_ | _) hz9 <;> first | (simp; done) | (simp at hz9; done)) | (refine And.intro ?_ ?_) | (simp only [Post.block_ret, Post.block_exit, Post.block_normal, Post.block_pan, Post.seq_ret, Post.seq_exit, Post.seq_normal, Post.seq_pan]; try simp [hla]) | (refine T_draw tOK tmix [([], 0), ([], 1), ([0, 1], 2), ([0, 1, 2], 3), ([], 4), ([], 5), ([4, 5], 6), ([4, 5, 6], 7), ([0, 1, 2, 3, 4, 5, 6, 7], 8)] 8 (by decide +kernel) ?_; simp [hla]))
  ·rintro k fr σ hk ⟨rfl, rfl, hp⟩ ih
   replace ih := PLift.up ih
   have hkb : k < b.length := by omega
   have hk0 : decide (k < a.length) = true := by simpa using hk
   have hwk : IntKind.i64.wrap ((k : Int) + 1) = ((k + 1 : Nat) : Int) := by rw [IntWalk.i64_in _ (by omega)]; omega
   have ea := is_get hk
   have eb := is_get hkb
   have la : k < (is a).length := by omega
   have lb : k < (is b).length := by omega
   have ea' := get_of ea la
   have eb' := get_of eb lb
   refine TL_round ?_
   cases hb : bne a[k] b[k] with
   | true =>
    have : (a == b) = false := by
     rw [beq_eq_false_iff_ne]; rintro rfl; simp at hb
    rw [this] at h
    clear ih
    repeat (first | (refine T_seqk fun K hK => ?_) | (refine T_reg tOK rfl ?_; simp [hk0,hwk,ea,eb,ea',eb',la,lb,hb,hla,hlb,hk,hkb]) | (refine T_ret ?_; try simp) | (refine T_skip ?_; try simp) | (refine T_blockk fun K hK => ?_) | (with_reducible apply_assumption -exfalso -symm) | (rw [afterRF_ret]; simp [hk0,hwk,ea,eb,ea',eb',la,lb,hb,hla,hlb,hk,hkb]) | (refine T_exit ?_; try simp) | (refine T_cond_t ?_ ?_; · (simp; done)) | (refine T_cond_f ?_ ?_; · (simp; done)) | (rintro _ _ (_ | _) hz9 <;> first | (simp; done) | (simp at hz9; done)) | (refine And.intro ?_ ?_) | (simp only [Post.block_ret, Post.block_exit, Post.block_normal, Post.block_pan, Post.seq_ret, Post.seq_exit, Post.seq_normal, Post.seq_pan]; try simp [hk0,hwk,ea,eb,ea',eb',la,lb,hb,hla,hlb,hk,hkb]) | (refine T_draw tOK tmix [([], 0), ([], 1), ([0, 1], 2), ([0, 1, 2], 3), ([], 4), ([], 5), ([4, 5], 6), ([4, 5, 6], 7), ([0, 1, 2, 3, 4, 5, 6, 7], 8)] 8 (by decide +kernel) ?_; simp [hk0,hwk,ea,eb,ea',eb',la,lb,hb,hla,hlb,hk,hkb]))
   | false =>
    repeat (first | (refine T_seqk fun K hK => ?_) | (refine T_reg tOK rfl ?_; simp [hk0,hwk,ea,eb,ea',eb',la,lb,hb,hla,hlb,hk,hkb]) | (refine T_ret ?_; try simp) | (refine T_skip ?_; try simp) | (refine T_blockk fun K hK => ?_) | (with_reducible apply_assumption -exfalso -symm) | (rw [afterRF_ret]; simp [hk0,hwk,ea,eb,ea',eb',la,lb,hb,hla,hlb,hk,hkb]) | (refine T_exit ?_; try simp) | (refine T_cond_t ?_ ?_; · (simp; done)) | (refine T_cond_f ?_ ?_; · (simp; done)) | (rintro _ _ (_ | _) hz9 <;> first | (simp; done) | (simp at hz9; done)) | (refine And.intro ?_ ?_) | (simp only [Post.block_ret, Post.block_exit, Post.block_normal, Post.block_pan, Post.seq_ret, Post.seq_exit, Post.seq_normal, Post.seq_pan]; try simp [hk0,hwk,ea,eb,ea',eb',la,lb,hb,hla,hlb,hk,hkb]) | (refine T_draw tOK tmix [([], 0), ([], 1), ([0, 1], 2), ([0, 1, 2], 3), ([], 4), ([], 5), ([4, 5], 6), ([4, 5, 6], 7), ([0, 1, 2, 3, 4, 5, 6, 7], 8)] 8 (by decide +kernel) ?_; simp [hk0,hwk,ea,eb,ea',eb',la,lb,hb,hla,hlb,hk,hkb]))
    refine TL_fall (fr' := [(0, .lit (is a)), (1, .lit (is b)), (5, i64 ((k + 1 : Nat) : Int))]) (σ' := []) 0 [0, 1, 5] (by simp) (by simp [Fr.keep]) (by simp [belowFr, belowB, belowL_of_pure 0 _ (pureL_is a), belowL_of_pure 0 _ (pureL_is b)]) (by simp) rfl (ih.down _ _ ⟨rfl, rfl, ?_⟩)
    have he : a[k] = b[k] := by simpa using hb
    rw [List.take_add_one, List.take_add_one, hp, List.getElem?_eq_getElem hk, List.getElem?_eq_getElem hkb, he]
theorem strs_len (l : List (List UInt8)) : (strs l).length = l.length := by simp [strs]
theorem pureL_strs (l : List (List UInt8)) : pureL (strs l) = true := by
 unfold strs
 exact pureL_map _ (fun _ => rfl) l
theorem C_sames {a b : List (List UInt8)} (ha : a.length < 1000000000) (hb : b.length < 1000000000) (h : R (.ret (.bool (a == b))) σ) : C tE 15 [.lit (strs a), .lit (strs b)] σ R := by
 have hla := strs_len a
 have hlb := strs_len b
 refine C_pure tOK (by simp [pureL_strs]) ?_
 cases hn : bne (a.length : Int) (b.length : Int) with
 | true =>
  have : (a == b) = false := by
   rw [beq_eq_false_iff_ne]; rintro rfl; simp at hn
  rw [this] at h
  refine C_bodyk tOK Tryz.func15 rfl (Nat.le_of_ble_eq_true rfl) fun K hK => ?_; simp
  repeat (first | (refine T_seqk fun K hK => ?_) | (refine T_reg tOK rfl ?_; simp [hla,hlb,hn]) | (refine T_ret ?_; try simp) | (refine T_skip ?_; try simp) | (refine T_blockk fun K hK => ?_) | (with_reducible apply_assumption -exfalso -symm) | (rw [afterRF_ret]; simp [hla,hlb,hn]) | (refine T_exit ?_; try simp) | (refine T_cond_t ?_ ?_; · (simp; done)) | (refine T_cond_f ?_ ?_; · (simp; done)) | (rintro _ _ (_ | _) hz9 <;> first | (simp; done) | (simp at hz9; done)) | (refine And.intro ?_ ?_) | (simp only [Post.block_ret, Post.block_exit, Post.block_normal, Post.block_pan, Post.seq_ret, Post.seq_exit, Post.seq_normal, Post.seq_pan]; try simp [hla,hlb,hn]) | (refine T_draw tOK tmix [([], 0), ([], 1), ([0, 1], 2), ([0, 1, 2], 3), ([], 4), ([], 5), ([4, 5], 6), ([4, 5, 6], 7), ([0, 1, 2, 3, 4, 5, 6, 7], 8)] 8 (by decide +kernel) ?_; simp [hla,hlb,hn]))
 | false =>
  have hlen : a.length = b.length := by simp at hn; omega
  refine C_bodyk tOK Tryz.func15 rfl (Nat.le_of_ble_eq_true rfl) fun K hK => ?_; simp
  repeat (first | (refine T_seqk fun K hK => ?_) | (refine T_reg tOK rfl ?_; simp [hla,hlb,hn]) | (refine T_ret ?_; try simp) | (refine T_skip ?_; try simp) | (refine T_blockk fun K hK => ?_) | (with_reducible apply_assumption -exfalso -symm) | (rw [afterRF_ret]; simp [hla,hlb,hn]) | (refine T_exit ?_; try simp) | (refine T_cond_t ?_ ?_; · (simp; done)) | (refine T_cond_f ?_ ?_; · (simp; done)) | (rintro _ _ (_ | _) hz9 <;> first | (simp; done) | (simp at hz9; done)) | (refine And.intro ?_ ?_) | (simp only [Post.block_ret, Post.block_exit, Post.block_normal, Post.block_pan, Post.seq_ret, Post.seq_exit, Post.seq_normal, Post.seq_pan]; try simp [hla,hlb,hn]) | (refine T_draw tOK tmix [([], 0), ([], 1), ([0, 1], 2), ([0, 1, 2], 3), ([], 4), ([], 5), ([4, 5], 6), ([4, 5, 6], 7), ([0, 1, 2, 3, 4, 5, 6, 7], 8)] 8 (by decide +kernel) ?_; simp [hla,hlb,hn]))
  refine T_loop ?_
  refine TL_keep [0, 1, 5] ?_
  simp [Fr.keep]
  refine TL_st a.length (fun k fr σ => fr = [(0, .lit (strs a)), (1, .lit (strs b)), (5, i64 k)] ∧ σ = [] ∧ a.take k = b.take k) ?_ ?_ ⟨rfl, rfl, by simp⟩
  ·rintro fr σ ⟨rfl, rfl, hp⟩
   rw [List.take_length, hlen, List.take_length] at hp
   subst hp
   simp at h
   refine TL_round ?_
   repeat (first | (refine T_seqk fun K hK => ?_) | (refine T_reg tOK rfl ?_; simp [hla]) | (refine T_ret ?_; try simp) | (refine T_skip ?_; try simp) | (refine T_blockk fun K hK => ?_) | (with_reducible apply_assumption -exfalso -symm) | (rw [afterRF_ret]; simp [hla]) | (refine T_exit ?_; try simp) | (refine T_cond_t ?_ ?_; · (simp; done)) | (refine T_cond_f ?_ ?_; · (simp; done)) | (rintro _ _ (_ | _) hz9 <;> first | (simp; done) | (simp at hz9; done)) | (refine And.intro ?_ ?_) | (simp only [Post.block_ret, Post.block_exit, Post.block_normal, Post.block_pan, Post.seq_ret, Post.seq_exit, Post.seq_normal, Post.seq_pan]; try simp [hla]) | (refine T_draw tOK tmix [([], 0), ([], 1), ([0, 1], 2), ([0, 1, 2], 3), ([], 4), ([], 5), ([4, 5], 6), ([4, 5, 6], 7), ([0, 1, 2, 3, 4, 5, 6, 7], 8)] 8 (by decide +kernel) ?_; simp [hla]))
  ·rintro k fr σ hk ⟨rfl, rfl, hp⟩ ih
   replace ih := PLift.up ih
   have hkb : k < b.length := by omega
   have hk0 : decide (k < a.length) = true := by simpa using hk
   have hwk : IntKind.i64.wrap ((k : Int) + 1) = ((k + 1 : Nat) : Int) := by rw [IntWalk.i64_in _ (by omega)]; omega
   have ea : (strs a)[k]? = some (.str ⟨a[k].toArray⟩) := by simp [strs, hk]
   have eb : (strs b)[k]? = some (.str ⟨b[k].toArray⟩) := by simp [strs, hkb]
   have la : k < (strs a).length := by omega
   have lb : k < (strs b).length := by omega
   have ea' := get_of ea la
   have eb' := get_of eb lb
   have hda : (ByteArray.mk a[k].toArray).toList = a[k] := by rw [bytes_toList]
   have hdb : (ByteArray.mk b[k].toArray).toList = b[k] := by rw [bytes_toList]
   refine TL_round ?_
   cases hb : (a[k] == b[k]) with
   | false =>
    have : (a == b) = false := by
     rw [beq_eq_false_iff_ne]; rintro rfl; simp at hb
    rw [this] at h
    clear ih
    repeat (first | (refine T_seqk fun K hK => ?_) | (refine T_reg tOK rfl ?_; simp [hk0,hwk,ea,eb,ea',eb',la,lb,hb,hla,hlb,hk,hkb,hda,hdb]) | (refine T_ret ?_; try simp) | (refine T_skip ?_; try simp) | (refine T_blockk fun K hK => ?_) | (with_reducible apply_assumption -exfalso -symm) | (rw [afterRF_ret]; simp [hk0,hwk,ea,eb,ea',eb',la,lb,hb,hla,hlb,hk,hkb,hda,hdb]) | (refine T_exit ?_; try simp) | (refine T_cond_t ?_ ?_; · (simp; done)) | (refine T_cond_f ?_ ?_; · (simp; done)) | (rintro _ _ (_ | _) hz9 <;> first | (simp; done) | (simp at hz9; done)) | (refine And.intro ?_ ?_) | (simp only [Post.block_ret, Post.block_exit, Post.block_normal, Post.block_pan, Post.seq_ret, Post.seq_exit, Post.seq_normal, Post.seq_pan]; try simp [hk0,hwk,ea,eb,ea',eb',la,lb,hb,hla,hlb,hk,hkb,hda,hdb]) | (refine T_draw tOK tmix [([], 0), ([], 1), ([0, 1], 2), ([0, 1, 2], 3), ([], 4), ([], 5), ([4, 5], 6), ([4, 5, 6], 7), ([0, 1, 2, 3, 4, 5, 6, 7], 8)] 8 (by decide +kernel) ?_; simp [hk0,hwk,ea,eb,ea',eb',la,lb,hb,hla,hlb,hk,hkb,hda,hdb]))
   | true =>
    repeat (first | (refine T_seqk fun K hK => ?_) | (refine T_reg tOK rfl ?_; simp [hk0,hwk,ea,eb,ea',eb',la,lb,hb,hla,hlb,hk,hkb,hda,hdb]) | (refine T_ret ?_; try simp) | (refine T_skip ?_; try simp) | (refine T_blockk fun K hK => ?_) | (with_reducible apply_assumption -exfalso -symm) | (rw [afterRF_ret]; simp [hk0,hwk,ea,eb,ea',eb',la,lb,hb,hla,hlb,hk,hkb,hda,hdb]) | (refine T_exit ?_; try simp) | (refine T_cond_t ?_ ?_; · (simp; done)) | (refine T_cond_f ?_ ?_; · (simp; done)) | (rintro _ _ (_ | _) hz9 <;> first | (simp; done) | (simp at hz9; done)) | (refine And.intro ?_ ?_) | (simp only [Post.block_ret, Post.block_exit, Post.block_normal, Post.block_pan, Post.seq_ret, Post.seq_exit, Post.seq_normal, Post.seq_pan]; try simp [hk0,hwk,ea,eb,ea',eb',la,lb,hb,hla,hlb,hk,hkb,hda,hdb]) | (refine T_draw tOK tmix [([], 0), ([], 1), ([0, 1], 2), ([0, 1, 2], 3), ([], 4), ([], 5), ([4, 5], 6), ([4, 5, 6], 7), ([0, 1, 2, 3, 4, 5, 6, 7], 8)] 8 (by decide +kernel) ?_; simp [hk0,hwk,ea,eb,ea',eb',la,lb,hb,hla,hlb,hk,hkb,hda,hdb]))
    refine TL_fall (fr' := [(0, .lit (strs a)), (1, .lit (strs b)), (5, i64 ((k + 1 : Nat) : Int))]) (σ' := []) 0 [0, 1, 5] (by simp) (by simp [Fr.keep]) (by simp [belowFr, belowB, belowL_of_pure 0 _ (pureL_strs a), belowL_of_pure 0 _ (pureL_strs b)]) (by simp) rfl (ih.down _ _ ⟨rfl, rfl, ?_⟩)
    have he : a[k] = b[k] := by simpa using hb
    rw [List.take_add_one, List.take_add_one, hp, List.getElem?_eq_getElem hk, List.getElem?_eq_getElem hkb, he]
end
end Go.Proofs.YtdplbgfokoajjaaGreat
end
