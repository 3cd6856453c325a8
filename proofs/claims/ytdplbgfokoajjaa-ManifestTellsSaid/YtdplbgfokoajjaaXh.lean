/- Package manifest: the list of bytes. -/
import Derived.Test.YtdplbgfokoajjaaXg
import Derived.Test.YtdplbgfokoajjaaXd
import Derived.IntWalk
section
set_option linter.unusedVariables false
set_option linter.unusedSimpArgs false
set_option maxRecDepth 20000
namespace Go.Proofs.Ytdplbgfokoajjaa
open Go
attribute [local simp] RF_nil RF_cons afterRF_ret nilCmp sop sGuard isCall sCallee Fr.eval Fr.get Fr.put ofConst sLoad sStore sBuiltin Fr.args bodyQ sRes oneOf sBin sInt sUn
attribute [local simp] RD_nil RD_cons noConf clear accAdd Tab.pr Tab.slot foot wid idOf refId Op.operands Call.operands sFieldAddr sNilCheck sLookup keyLit sMapSet sMapDel sLen Store.at Store.new getP setP typeAt fits evalParts sBuildSlice sFill sList sApp sAppend frzRe frz pureB pureL
attribute [local simp] optEval sSlice sIndexAddr xop sClear

section
variable {R : Re → Store → Prop} {σ : Store}
theorem C_equal {a b : List UInt8} (ha : a.length < 1000000000) (h : R (.ret (.bool (a == b))) σ) : C tE 31 [u8s a, u8s b] σ R := by
  have hla := u8l_len a
  have hlb := u8l_len b
  refine C_pure tOK (by simp [u8s, pureL_u8]) ?_
  unfold u8s
  cases hn : bne (a.length : Int) (b.length : Int) with
  | true =>
    have : (a == b) = false := by
      rw [beq_eq_false_iff_ne]; rintro rfl; simp at hn
    rw [this] at h
    refine C_bodyk tOK Try.func31 rfl (Nat.le_of_ble_eq_true rfl) fun K hK => ?_; simp
    repeat (first | (refine T_seqk fun K hK => ?_) | (refine T_reg tOK rfl ?_; simp [hla,hlb,hn]) | (refine T_ret ?_; try simp) | (refine T_skip ?_; try simp) | (refine T_blockk fun K hK => ?_) | (with_reducible apply_assumption -exfalso -symm) | (rw [afterRF_ret]; simp [hla,hlb,hn]) | (refine T_exit ?_; try simp) | (refine T_cond_t ?_ ?_; · (simp; done)) | (refine T_cond_f ?_ ?_; · (simp; done)) | (rintro _ _ (_ | _) hz9 <;> first | (simp; done) | (simp at hz9; done)) | (refine And.intro ?_ ?_) | (simp only [Post.block_ret, Post.block_exit, Post.block_normal, Post.block_pan, Post.seq_ret, Post.seq_exit, Post.seq_normal, Post.seq_pan]; try simp [hla,hlb,hn]) | (refine T_draw tOK tmix [([], 0), ([], 1), ([0, 1], 2), ([0, 1, 2], 3), ([], 4), ([], 5), ([4, 5], 6), ([4, 5, 6], 7), ([0, 1, 2, 3, 4, 5, 6, 7], 8)] 8 (by decide +kernel) ?_; simp [hla,hlb,hn]))
  | false =>
    have hlen : a.length = b.length := by simp at hn; omega
    refine C_bodyk tOK Try.func31 rfl (Nat.le_of_ble_eq_true rfl) fun K hK => ?_; simp
    repeat (first | (refine T_seqk fun K hK => ?_) | (refine T_reg tOK rfl ?_; simp [hla,hlb,hn]) | (refine T_ret ?_; try simp) | (refine T_skip ?_; try simp) | (refine T_blockk fun K hK => ?_) | (with_reducible apply_assumption -exfalso -symm) | (rw [afterRF_ret]; simp [hla,hlb,hn]) | (refine T_exit ?_; try simp) | (refine T_cond_t ?_ ?_; · (simp; done)) | (refine T_cond_f ?_ ?_; · (simp; done)) | (rintro _ _ (_ | _) hz9 <;> first | (simp; done) | (simp at hz9; done)) | (refine And.intro ?_ ?_) | (simp only [Post.block_ret, Post.block_exit, Post.block_normal, Post.block_pan, Post.seq_ret, Post.seq_exit, Post.seq_normal, Post.seq_pan]; try simp [hla,hlb,hn]) | (refine T_draw tOK tmix [([], 0), ([], 1), ([0, 1], 2), ([0, 1, 2], 3), ([], 4), ([], 5), ([4, 5], 6), ([4, 5, 6], 7), ([0, 1, 2, 3, 4, 5, 6, 7], 8)] 8 (by decide +kernel) ?_; simp [hla,hlb,hn]))
    refine T_loop ?_
    refine TL_keep [0, 1, 12, 13] ?_
    simp [Fr.keep]
    refine TL_st a.length (fun k fr σ => fr = [(0, .lit (u8l a)), (1, .lit (u8l b)), (12, i64 a.length), (13, i64 k)] ∧ σ = [] ∧ a.take k = b.take k) ?_ ?_ ⟨rfl, rfl, by simp⟩
    · rintro fr σ ⟨rfl, rfl, hp⟩
      rw [List.take_length, hlen, List.take_length] at hp
      subst hp
      simp at h
      refine TL_round ?_
      repeat (first | (refine T_seqk fun K hK => ?_) | (refine T_reg tOK rfl ?_; simp) | (refine T_ret ?_; try simp) | (refine T_skip ?_; try simp) | (refine T_blockk fun K hK => ?_) | (with_reducible apply_assumption -exfalso -symm) | (rw [afterRF_ret]; simp) | (refine T_exit ?_; try simp) | (refine T_cond_t ?_ ?_; · (simp; done)) | (refine T_cond_f ?_ ?_; · (simp; done)) | (rintro _ _ (_ | _) hz9 <;> first | (simp; done) | (simp at hz9; done)) | (refine And.intro ?_ ?_) | (simp only [Post.block_ret, Post.block_exit, Post.block_normal, Post.block_pan, Post.seq_ret, Post.seq_exit, Post.seq_normal, Post.seq_pan]; try simp) | (refine T_draw tOK tmix [([], 0), ([], 1), ([0, 1], 2), ([0, 1, 2], 3), ([], 4), ([], 5), ([4, 5], 6), ([4, 5, 6], 7), ([0, 1, 2, 3, 4, 5, 6, 7], 8)] 8 (by decide +kernel) ?_; simp))
    · rintro k fr σ hk ⟨rfl, rfl, hp⟩ ih
      replace ih := PLift.up ih
      have hkb : k < b.length := by omega
      have hk0 : decide (k < a.length) = true := by simpa using hk
      have hwk : IntKind.i64.wrap ((k : Int) + 1) = ((k + 1 : Nat) : Int) := by rw [IntWalk.i64_in _ (by omega)]; omega
      have ea : (u8l a)[k]? = some (.int .u8 a[k].toNat) := by simp [u8l, hk]
      have eb : (u8l b)[k]? = some (.int .u8 b[k].toNat) := by simp [u8l, hkb]
      have la : k < (u8l a).length := by omega
      have lb : k < (u8l b).length := by omega
      have ea' := get_of ea la
      have eb' := get_of eb lb
      refine TL_round ?_
      cases hb : bne (a[k].toNat : Int) (b[k].toNat : Int) with
      | true =>
        have : (a == b) = false := by
          rw [beq_eq_false_iff_ne]; rintro rfl; simp at hb
        rw [this] at h
        clear ih
        repeat (first | (refine T_seqk fun K hK => ?_) | (refine T_reg tOK rfl ?_; simp [hk0,hwk,ea,eb,ea',eb',la,lb,hb,hla,hlb,hk,hkb]) | (refine T_ret ?_; try simp) | (refine T_skip ?_; try simp) | (refine T_blockk fun K hK => ?_) | (with_reducible apply_assumption -exfalso -symm) | (rw [afterRF_ret]; simp [hk0,hwk,ea,eb,ea',eb',la,lb,hb,hla,hlb,hk,hkb]) | (refine T_exit ?_; try simp) | (refine T_cond_t ?_ ?_; · (simp; done)) | (refine T_cond_f ?_ ?_; · (simp; done)) | (rintro _ _ (_ | _) hz9 <;> first | (simp; done) | (simp at hz9; done)) | (refine And.intro ?_ ?_) | (simp only [Post.block_ret, Post.block_exit, Post.block_normal, Post.block_pan, Post.seq_ret, Post.seq_exit, Post.seq_normal, Post.seq_pan]; try simp [hk0,hwk,ea,eb,ea',eb',la,lb,hb,hla,hlb,hk,hkb]) | (refine T_draw tOK tmix [([], 0), ([], 1), ([0, 1], 2), ([0, 1, 2], 3), ([], 4), ([], 5), ([4, 5], 6), ([4, 5, 6], 7), ([0, 1, 2, 3, 4, 5, 6, 7], 8)] 8 (by decide +kernel) ?_; simp [hk0,hwk,ea,eb,ea',eb',la,lb,hb,hla,hlb,hk,hkb]))
      | false =>
        repeat (first | (refine T_seqk fun K hK => ?_) | (refine T_reg tOK rfl ?_; simp [hk0,hwk,ea,eb,ea',eb',la,lb,hb,hla,hlb,hk,hkb]) | (refine T_ret ?_; try simp) | (refine T_skip ?_; try simp) | (refine T_blockk fun K hK => ?_) | (with_reducible apply_assumption -exfalso -symm) | (rw [afterRF_ret]; simp [hk0,hwk,ea,eb,ea',eb',la,lb,hb,hla,hlb,hk,hkb]) | (refine T_exit ?_; try simp) | (refine T_cond_t ?_ ?_; · (simp; done)) | (refine T_cond_f ?_ ?_; · (simp; done)) | (rintro _ _ (_ | _) hz9 <;> first | (simp; done) | (simp at hz9; done)) | (refine And.intro ?_ ?_) | (simp only [Post.block_ret, Post.block_exit, Post.block_normal, Post.block_pan, Post.seq_ret, Post.seq_exit, Post.seq_normal, Post.seq_pan]; try simp [hk0,hwk,ea,eb,ea',eb',la,lb,hb,hla,hlb,hk,hkb]) | (refine T_draw tOK tmix [([], 0), ([], 1), ([0, 1], 2), ([0, 1, 2], 3), ([], 4), ([], 5), ([4, 5], 6), ([4, 5, 6], 7), ([0, 1, 2, 3, 4, 5, 6, 7], 8)] 8 (by decide +kernel) ?_; simp [hk0,hwk,ea,eb,ea',eb',la,lb,hb,hla,hlb,hk,hkb]))
        refine TL_fall (fr' := [(0, .lit (u8l a)), (1, .lit (u8l b)), (12, i64 a.length), (13, i64 ((k + 1 : Nat) : Int))]) (σ' := []) 0 [0, 1, 12, 13] (by simp) (by simp [Fr.keep]) (by simp [belowFr, belowB, belowL_of_pure 0 _ (pureL_u8 a), belowL_of_pure 0 _ (pureL_u8 b)]) (by simp) rfl (ih.down _ _ ⟨rfl, rfl, ?_⟩)
        have he : a[k] = b[k] := by
          simp at hb
          exact UInt8.toNat_inj.1 (by exact_mod_cast hb)
        rw [List.take_add_one, List.take_add_one, hp, List.getElem?_eq_getElem hk, List.getElem?_eq_getElem hkb, he]

theorem C_chunk {xs : List UInt8} (h : R (.ret (.fn (.func 66) [] [.laddr (u8s xs), .laddr (i64 4)])) σ) : C tE 34 [u8s xs, i64 4] σ R := by
  refine C_new tOK ?_
  unfold u8s
  unfold u8s at h
  refine C_bodyk tOK Try.func34 rfl (Nat.le_of_ble_eq_true rfl) fun K hK => ?_; simp
  repeat (first | (refine T_seqk fun K hK => ?_) | (refine T_reg tOK rfl ?_; simp) | (refine T_ret ?_; try simp) | (refine T_skip ?_; try simp) | (refine T_blockk fun K hK => ?_) | (with_reducible apply_assumption -exfalso -symm) | (rw [afterRF_ret]; simp) | (refine T_exit ?_; try simp) | (refine T_cond_t ?_ ?_; · (simp; done)) | (refine T_cond_f ?_ ?_; · (simp; done)) | (rintro _ _ (_ | _) hz9 <;> first | (simp; done) | (simp at hz9; done)) | (refine And.intro ?_ ?_) | (simp only [Post.block_ret, Post.block_exit, Post.block_normal, Post.block_pan, Post.seq_ret, Post.seq_exit, Post.seq_normal, Post.seq_pan]; try simp) | (refine T_loop (TL_round ?_)) | (refine TL_round ?_))
  · exact .inl (by simp)
  · have hx : ¬ (σ.length + 1 < σ.length) := by omega
    simpa [frzT, frzN, hx] using h

/-- What a list's bytes tell. -/
theorem or_lo {x y : Int} (i : Nat) (hi : i ≤ 32) (hx0 : 0 ≤ x) (hx : x % 2 ^ i = 0) (hx1 : x < 4294967296) (hy0 : 0 ≤ y) (hy : y < 2 ^ i) : bits .or .i64 x y = x + y := by
  have h2 : (2 : Int) ^ i ≤ 2 ^ 32 := by exact_mod_cast Nat.pow_le_pow_right (by decide) hi
  refine bits_join .i64 63 (by decide) (fun n h0 h1 => IntWalk.i64_in _ (by omega)) i x y hx0 hx (by omega) hy0 hy (by omega)
theorem rd4_facts (a1 a2 a3 a4 : UInt8) : IntKind.i64.wrap (a1.toNat : Int) = a1.toNat ∧
    IntKind.i64.wrap (a2.toNat : Int) = a2.toNat ∧
    IntKind.i64.wrap (a3.toNat : Int) = a3.toNat ∧
    IntKind.i64.wrap (a4.toNat : Int) = a4.toNat ∧
    IntKind.i64.wrap ((a1.toNat : Int) * 2 ^ min 24 IntKind.i64.bits) = a1.toNat * 16777216 ∧
    IntKind.i64.wrap ((a2.toNat : Int) * 2 ^ min 16 IntKind.i64.bits) = a2.toNat * 65536 ∧
    IntKind.i64.wrap ((a3.toNat : Int) * 2 ^ min 8 IntKind.i64.bits) = a3.toNat * 256 ∧
    bits .or .i64 ((a1.toNat : Int) * 16777216) ((a2.toNat : Int) * 65536) = a1.toNat * 16777216 + a2.toNat * 65536 ∧
    bits .or .i64 ((a1.toNat : Int) * 16777216 + a2.toNat * 65536) ((a3.toNat : Int) * 256) = a1.toNat * 16777216 + a2.toNat * 65536 + a3.toNat * 256 ∧
    bits .or .i64 ((a1.toNat : Int) * 16777216 + a2.toNat * 65536 + a3.toNat * 256) (a4.toNat : Int) = rd4 [a1, a2, a3, a4] := by
  have t1 := UInt8.toNat_lt a1
  have t2 := UInt8.toNat_lt a2
  have t3 := UInt8.toNat_lt a3
  have t4 := UInt8.toNat_lt a4
  have f1 : IntKind.i64.wrap (a1.toNat : Int) = a1.toNat := IntWalk.i64_in _ (by omega)
  have f2 : IntKind.i64.wrap (a2.toNat : Int) = a2.toNat := IntWalk.i64_in _ (by omega)
  have f3 : IntKind.i64.wrap (a3.toNat : Int) = a3.toNat := IntWalk.i64_in _ (by omega)
  have f4 : IntKind.i64.wrap (a4.toNat : Int) = a4.toNat := IntWalk.i64_in _ (by omega)
  have s1 : IntKind.i64.wrap ((a1.toNat : Int) * 2 ^ min 24 IntKind.i64.bits) = a1.toNat * 16777216 := IntWalk.i64_in ((a1.toNat : Int) * 16777216) (by omega)
  have s2 : IntKind.i64.wrap ((a2.toNat : Int) * 2 ^ min 16 IntKind.i64.bits) = a2.toNat * 65536 := IntWalk.i64_in ((a2.toNat : Int) * 65536) (by omega)
  have s3 : IntKind.i64.wrap ((a3.toNat : Int) * 2 ^ min 8 IntKind.i64.bits) = a3.toNat * 256 := IntWalk.i64_in ((a3.toNat : Int) * 256) (by omega)
  have o1 : bits .or .i64 ((a1.toNat : Int) * 16777216) ((a2.toNat : Int) * 65536) = a1.toNat * 16777216 + a2.toNat * 65536 := or_lo 24 (by decide) (by omega) (by omega) (by omega) (by omega) (by omega)
  have o2 : bits .or .i64 ((a1.toNat : Int) * 16777216 + a2.toNat * 65536) ((a3.toNat : Int) * 256) = a1.toNat * 16777216 + a2.toNat * 65536 + a3.toNat * 256 := or_lo 16 (by decide) (by omega) (by omega) (by omega) (by omega) (by omega)
  have o3 : bits .or .i64 ((a1.toNat : Int) * 16777216 + a2.toNat * 65536 + a3.toNat * 256) (a4.toNat : Int) = rd4 [a1, a2, a3, a4] := or_lo 8 (by decide) (by omega) (by omega) (by omega) (by omega) (by omega)
  exact ⟨f1, f2, f3, f4, s1, s2, s3, o1, o2, o3⟩
def chunks (xs : List UInt8) (n : Nat) : List Int := (List.range n).map fun j => rd4 ((xs.drop (4 * j)).take 4)
theorem chunks_succ (xs : List UInt8) (n : Nat) : chunks xs (n + 1) = chunks xs n ++ [rd4 ((xs.drop (4 * n)).take 4)] := by simp [chunks, List.range_succ]
theorem chunks_len (xs : List UInt8) (n : Nat) : (chunks xs n).length = n := by simp [chunks]
theorem four_of {xs : List UInt8} (h : 4 ≤ xs.length) : ∃ a b c d, xs.take 4 = [a, b, c, d] := by
  match xs, h with
  | a :: b :: c :: d :: _, _ => exact ⟨a, b, c, d, rfl⟩
def manGet (b : List UInt8) : List Int × Int :=
  if b.length = 0 ∨ b.length ≠ 5 + 4 * (b.headD 0).toNat then ([], 12)
  else if be4 (crc (b.take (b.length - 4))) ≠ b.drop (b.length - 4) then ([], 14)
  else if okL (chunks ((b.take (b.length - 4)).drop 1) (b.headD 0).toNat) then (chunks ((b.take (b.length - 4)).drop 1) (b.headD 0).toNat, 0) else ([], 12)
theorem frz_is (σ : Store) (n : Nat) {l : List Int} : ∀ x ∈ is l, frz σ (n + 1) x = some x := fun x hx => by
  obtain ⟨b, _, rfl⟩ := List.mem_map.1 hx; rfl
theorem frz_isrow {σ : Store} {b g n : Nat} {l : List Int} (hb : Store.at σ b = some (.cells 2 g (is l))) (hn : n = l.length) {m : Nat} : frz σ (m + 2) (.ref b g 0 n) = some (.lit (is l)) := by
  subst hn
  rw [frz_row (xs := is l) hb (by rw [is_len]; omega) (frz_is _ _)]
  rw [List.drop_zero, List.take_of_length_le (by rw [is_len]; exact Nat.le_refl _)]
theorem frz_pair {σ : Store} {n : Nat} {a b x y : PV} (h1 : frz σ n a = some x) (h2 : frz σ n b = some y) : frz σ (n + 1) (.tup [a, b]) = some (.tup [x, y]) := by
  simp only [frz, List.mapM_cons, List.mapM_nil, h1, h2]; rfl
theorem C_right_ref {b g n : Nat} {l : List Int} (hb : Store.at σ b = some (.cells 2 g (is l))) (hn : n = l.length) (hl : l.length < 1000000000) (h : R (.ret (.bool (okL l))) σ) : C tE 8 [.ref b g 0 n] σ R := by
  refine C_lend tOK (args' := [.lit (is l)]) ?_ (C_right hl ⟨rfl, h⟩)
  simp only [List.mapM_cons, List.mapM_nil]
  rw [frz_isrow hb hn]; rfl
theorem C_right_nils (h : R (.ret (.bool false)) σ) : C tE 8 [.nils] σ R :=
  C_lend tOK (args' := [.lit (is [])]) rfl (C_right (l := []) (by decide) ⟨rfl, h⟩)
set_option maxHeartbeats 1000000 in
theorem get_round0 {ac bd : Code} (hc : (Try.f6.body.bind rfBody) = some (ac, bd)) {a1 a2 a3 a4 : UInt8} {X : Option Blk} {Q : Post} {fr : Fr}
    (h6 : Fr.get fr 6 = some (.lit (u8l [a1, a2, a3, a4]))) (h5 : Fr.get fr 5 = some (.ptr 9 0 0 []))
    (h : ∀ fr, Q .normal fr [none, none, none, none, none, none, none, none, none, some (.cells 22 0 [.ref 44 0 0 1]), X, none, none, none, none, none, none, none, some (.cells 2 0 [.int .i64 (rd4 [a1, a2, a3, a4])]), none, none, none, none, none, none, none, none, none, none, none, none, none, none, none, none, none, none, none, none, none, none, none, none, none, some (.cells 2 0 (is [(rd4 [a1, a2, a3, a4])]))]) :
    T tE 69 18 bd Q fr ([none, none, none, none, none, none, none, none, none, some (.cells 22 0 [.nils]), X] ++ [none, none, none, none, none, none, none]) := by
  obtain ⟨f1, f2, f3, f4, s1, s2, s3, o1, o2, o3⟩ := rd4_facts a1 a2 a3 a4
  simp [Try.f6, rfBody] at hc
  obtain ⟨rfl, rfl⟩ := hc
  refine T_blockk fun Q' hQ' => ?_
  refine T_draw tOK tmix [([], 2), ([], 3), ([1], 4), ([1, 2], 5), ([1, 2, 3], 6), ([1, 2, 3, 4], 7), ([], 8), ([6], 9), ([6, 7], 10), ([6, 7, 8], 11), ([6, 7, 8, 9], 12), ([1, 2, 3, 4, 5, 6, 7, 8, 9, 10], 13), ([], 14), ([12], 15), ([12, 13], 16), ([12, 13, 14], 17), ([12, 13, 14, 15], 18), ([1, 2, 3, 4, 5, 6, 7, 8, 9, 10, 11, 12, 13, 14, 15, 16], 19), ([], 20), ([18], 21), ([18, 19], 22), ([18, 19, 20], 23), ([1, 2, 3, 4, 5, 6, 7, 8, 9, 10, 11, 12, 13, 14, 15, 16, 17, 18, 19, 20, 21], 24), ([1, 2, 3, 4, 5, 6, 7, 8, 9, 10, 11, 12, 13, 14, 15, 16, 17, 18, 19, 20, 21, 22], 0), ([0, 1, 2, 3, 4, 5, 6, 7, 8, 9, 10, 11, 12, 13, 14, 15, 16, 17, 18, 19, 20, 21, 22, 23], 1), ([0, 1, 2, 3, 4, 5, 6, 7, 8, 9, 10, 11, 12, 13, 14, 15, 16, 17, 18, 19, 20, 21, 22, 23, 24], 25)] 24 (by decide +kernel) ?_
  simp [h5,h6,u8l,f1,f2,f3,f4,s1,s2,s3,o1,o2,o3]
  exact hQ' _ _ _ (h _)
set_option maxHeartbeats 1000000 in
theorem get_round1 {ac bd : Code} (hc : (Try.f6.body.bind rfBody) = some (ac, bd)) {a1 a2 a3 a4 : UInt8} {X : Option Blk} {Q : Post} {fr : Fr}
    (h6 : Fr.get fr 6 = some (.lit (u8l [a1, a2, a3, a4]))) (h5 : Fr.get fr 5 = some (.ptr 9 0 0 [])) {g j : Nat} {y : Int} {L : List Int} (hL : L.length = j) (hj : j < 1000000)
    (h : ∀ fr, Q .normal fr ([none, none, none, none, none, none, none, none, none, some (.cells 22 0 [.ref 44 (g + 1) 0 (j + 1)]), X, none, none, none, none, none, none, none, some (.cells 2 0 [.int .i64 y]), none, none, none, none, none, none, none, none, none, none, none, none, none, none, none, none, none, none, none, none, none, none, none, none, none, some (.cells 2 (g + 1) (is (L ++ [(rd4 [a1, a2, a3, a4])])))] ++ [none, none, none, none, none, none, none, some (.cells 2 0 [.int .i64 (rd4 [a1, a2, a3, a4])]), none, none, none, none, none, none, none, none, none, none, none, none, none, none, none, none, none, none, none, none, none, none, none, none, none])) :
    T tE 69 52 bd Q fr ([none, none, none, none, none, none, none, none, none, some (.cells 22 0 [.ref 44 g 0 j]), X, none, none, none, none, none, none, none, some (.cells 2 0 [.int .i64 y]), none, none, none, none, none, none, none, none, none, none, none, none, none, none, none, none, none, none, none, none, none, none, none, none, none, some (.cells 2 g (is L))] ++ [none, none, none, none, none, none, none]) := by
  obtain ⟨f1, f2, f3, f4, s1, s2, s3, o1, o2, o3⟩ := rd4_facts a1 a2 a3 a4
  simp [Try.f6, rfBody] at hc
  obtain ⟨rfl, rfl⟩ := hc
  refine T_blockk fun Q' hQ' => ?_
  refine T_draw tOK tmix [([], 2), ([], 3), ([1], 4), ([1, 2], 5), ([1, 2, 3], 6), ([1, 2, 3, 4], 7), ([], 8), ([6], 9), ([6, 7], 10), ([6, 7, 8], 11), ([6, 7, 8, 9], 12), ([1, 2, 3, 4, 5, 6, 7, 8, 9, 10], 13), ([], 14), ([12], 15), ([12, 13], 16), ([12, 13, 14], 17), ([12, 13, 14, 15], 18), ([1, 2, 3, 4, 5, 6, 7, 8, 9, 10, 11, 12, 13, 14, 15, 16], 19), ([], 20), ([18], 21), ([18, 19], 22), ([18, 19, 20], 23), ([1, 2, 3, 4, 5, 6, 7, 8, 9, 10, 11, 12, 13, 14, 15, 16, 17, 18, 19, 20, 21], 24), ([1, 2, 3, 4, 5, 6, 7, 8, 9, 10, 11, 12, 13, 14, 15, 16, 17, 18, 19, 20, 21, 22], 0), ([0, 1, 2, 3, 4, 5, 6, 7, 8, 9, 10, 11, 12, 13, 14, 15, 16, 17, 18, 19, 20, 21, 22, 23], 1), ([0, 1, 2, 3, 4, 5, 6, 7, 8, 9, 10, 11, 12, 13, 14, 15, 16, 17, 18, 19, 20, 21, 22, 23, 24], 25)] 24 (by decide +kernel) ?_
  have hq : (2 * (j + 1) + 1000) * 8 ≤ 281474976710656 := by omega
  have hl : (is L).length = j := by rw [is_len, hL]
  have hl2 : j ≤ (is L).length := by omega
  have htk : (is L).take j = is L := List.take_of_length_le (by omega)
  have hap : is L ++ [.int .i64 (rd4 [a1, a2, a3, a4])] = is (L ++ [(rd4 [a1, a2, a3, a4])]) := by simp [is]
  simp [h5,h6,u8l,f1,f2,f3,f4,s1,s2,s3,o1,o2,o3,hq,hl,htk,hap,hl2]
  exact hQ' _ _ _ (h _)
set_option maxHeartbeats 2000000 in
theorem C_get {b : List UInt8} (hl : b.length < 1000000000) (h : R (.ret (.tup [.lit (is (manGet b).1), i64 (manGet b).2])) σ) : C tE 6 [u8s b] σ R := by
  have hbl := u8l_len b
  refine C_pure tOK (by simp [u8s, pureL_u8]) ?_
  unfold u8s
  cases b with
  | nil =>
    simp [manGet, is] at h
    refine C_bodyDk tOK Try.func6 rfl (Nat.le_of_ble_eq_true rfl) fun K hK => ?_; simp
    refine TZ_seqk fun K1 hK1 => TZ_of_T ?_
    simp
    repeat (first | (refine T_seqk fun K hK => ?_) | (refine T_reg tOK rfl ?_; simp [hbl]) | (refine T_ret ?_; try simp) | (refine T_skip ?_; try simp) | (refine T_blockk fun K hK => ?_) | (with_reducible apply_assumption -exfalso -symm) | (rw [afterRF_ret]; simp [hbl]) | (refine T_exit ?_; try simp) | (refine T_cond_t ?_ ?_; · (simp; done)) | (refine T_cond_f ?_ ?_; · (simp; done)) | (rintro _ _ (_ | _) hz9 <;> first | (simp; done) | (simp at hz9; done)) | (refine And.intro ?_ ?_) | (simp only [Post.block_ret, Post.block_exit, Post.block_normal, Post.block_pan, Post.seq_ret, Post.seq_exit, Post.seq_normal, Post.seq_pan]; try simp [hbl]) | (refine T_draw tOK tmix [([], 0), ([0], 1), ([0, 1], 2), ([], 3), ([], 4), ([4], 5), ([3, 4, 5], 6), ([0, 1, 2, 3, 4, 5, 6], 7), ([0, 1, 2, 3, 4, 5, 6, 7], 8)] 7 (by decide +kernel) ?_; simp [hbl]) | (refine T_draw tOK tmix [([], 2), ([], 3), ([1], 4), ([1, 2], 5), ([1, 2, 3], 6), ([1, 2, 3, 4], 7), ([], 8), ([6], 9), ([6, 7], 10), ([6, 7, 8], 11), ([6, 7, 8, 9], 12), ([1, 2, 3, 4, 5, 6, 7, 8, 9, 10], 13), ([], 14), ([12], 15), ([12, 13], 16), ([12, 13, 14], 17), ([12, 13, 14, 15], 18), ([1, 2, 3, 4, 5, 6, 7, 8, 9, 10, 11, 12, 13, 14, 15, 16], 19), ([], 20), ([18], 21), ([18, 19], 22), ([18, 19, 20], 23), ([1, 2, 3, 4, 5, 6, 7, 8, 9, 10, 11, 12, 13, 14, 15, 16, 17, 18, 19, 20, 21], 24), ([1, 2, 3, 4, 5, 6, 7, 8, 9, 10, 11, 12, 13, 14, 15, 16, 17, 18, 19, 20, 21, 22], 0), ([0, 1, 2, 3, 4, 5, 6, 7, 8, 9, 10, 11, 12, 13, 14, 15, 16, 17, 18, 19, 20, 21, 22, 23], 1), ([0, 1, 2, 3, 4, 5, 6, 7, 8, 9, 10, 11, 12, 13, 14, 15, 16, 17, 18, 19, 20, 21, 22, 23, 24], 25)] 24 (by decide +kernel) ?_; simp [hbl]))
    refine TZ_seqk fun K1 hK1 => TZ_of_T ?_
    simp
    repeat (first | (refine T_seqk fun K hK => ?_) | (refine T_reg tOK rfl ?_; simp [hbl]) | (refine T_ret ?_; try simp) | (refine T_skip ?_; try simp) | (refine T_blockk fun K hK => ?_) | (with_reducible apply_assumption -exfalso -symm) | (rw [afterRF_ret]; simp [hbl]) | (refine T_exit ?_; try simp) | (refine T_cond_t ?_ ?_; · (simp; done)) | (refine T_cond_f ?_ ?_; · (simp; done)) | (rintro _ _ (_ | _) hz9 <;> first | (simp; done) | (simp at hz9; done)) | (refine And.intro ?_ ?_) | (simp only [Post.block_ret, Post.block_exit, Post.block_normal, Post.block_pan, Post.seq_ret, Post.seq_exit, Post.seq_normal, Post.seq_pan]; try simp [hbl]) | (refine T_draw tOK tmix [([], 0), ([0], 1), ([0, 1], 2), ([], 3), ([], 4), ([4], 5), ([3, 4, 5], 6), ([0, 1, 2, 3, 4, 5, 6], 7), ([0, 1, 2, 3, 4, 5, 6, 7], 8)] 7 (by decide +kernel) ?_; simp [hbl]) | (refine T_draw tOK tmix [([], 2), ([], 3), ([1], 4), ([1, 2], 5), ([1, 2, 3], 6), ([1, 2, 3, 4], 7), ([], 8), ([6], 9), ([6, 7], 10), ([6, 7, 8], 11), ([6, 7, 8, 9], 12), ([1, 2, 3, 4, 5, 6, 7, 8, 9, 10], 13), ([], 14), ([12], 15), ([12, 13], 16), ([12, 13, 14], 17), ([12, 13, 14, 15], 18), ([1, 2, 3, 4, 5, 6, 7, 8, 9, 10, 11, 12, 13, 14, 15, 16], 19), ([], 20), ([18], 21), ([18, 19], 22), ([18, 19, 20], 23), ([1, 2, 3, 4, 5, 6, 7, 8, 9, 10, 11, 12, 13, 14, 15, 16, 17, 18, 19, 20, 21], 24), ([1, 2, 3, 4, 5, 6, 7, 8, 9, 10, 11, 12, 13, 14, 15, 16, 17, 18, 19, 20, 21, 22], 0), ([0, 1, 2, 3, 4, 5, 6, 7, 8, 9, 10, 11, 12, 13, 14, 15, 16, 17, 18, 19, 20, 21, 22, 23], 1), ([0, 1, 2, 3, 4, 5, 6, 7, 8, 9, 10, 11, 12, 13, 14, 15, 16, 17, 18, 19, 20, 21, 22, 23, 24], 25)] 24 (by decide +kernel) ?_; simp [hbl]))
  | cons x b' =>
    rw [List.length_cons] at hbl hl
    have hx := UInt8.toNat_lt x
    have w1 : IntKind.i64.wrap (x.toNat : Int) = x.toNat := IntWalk.i64_in _ (by omega)
    have w2 : IntKind.i64.wrap ((x.toNat : Int) + 1) = x.toNat + 1 := IntWalk.i64_in _ (by omega)
    have w3 : IntKind.i64.wrap (4 * ((x.toNat : Int) + 1)) = 4 * ((x.toNat : Int) + 1) := IntWalk.i64_in _ (by omega)
    have w4 : IntKind.i64.wrap (1 + 4 * ((x.toNat : Int) + 1)) = 1 + 4 * ((x.toNat : Int) + 1) := IntWalk.i64_in _ (by omega)
    have hnz : ((b'.length : Int) + 1 == 0) = false := by rw [beq_eq_false_iff_ne]; omega
    have e0 : (u8l (x :: b'))[0]? = some (.int .u8 x.toNat) := rfl
    have l0 : 0 < (u8l (x :: b')).length := by rw [hbl]; omega
    have e0' := get_of e0 l0
    unfold manGet at h
    cases hn : bne ((b'.length : Int) + 1) (1 + 4 * ((x.toNat : Int) + 1)) with
    | true =>
      have : (x :: b').length = 0 ∨ (x :: b').length ≠ 5 + 4 * ((x :: b').headD 0).toNat := by simp at hn ⊢; omega
      rw [if_pos this] at h
      simp [is] at h
      refine C_bodyDk tOK Try.func6 rfl (Nat.le_of_ble_eq_true rfl) fun K hK => ?_; simp
      refine TZ_seqk fun K1 hK1 => TZ_of_T ?_
      simp
      repeat (first | (refine T_seqk fun K hK => ?_) | (refine T_reg tOK rfl ?_; simp [hbl]) | (refine T_ret ?_; try simp) | (refine T_skip ?_; try simp) | (refine T_blockk fun K hK => ?_) | (with_reducible apply_assumption -exfalso -symm) | (rw [afterRF_ret]; simp [hbl]) | (refine T_exit ?_; try simp) | (refine T_cond_t ?_ ?_; · (simp; done)) | (refine T_cond_f ?_ ?_; · (simp; done)) | (rintro _ _ (_ | _) hz9 <;> first | (simp; done) | (simp at hz9; done)) | (refine And.intro ?_ ?_) | (simp only [Post.block_ret, Post.block_exit, Post.block_normal, Post.block_pan, Post.seq_ret, Post.seq_exit, Post.seq_normal, Post.seq_pan]; try simp [hbl]) | (refine T_draw tOK tmix [([], 0), ([0], 1), ([0, 1], 2), ([], 3), ([], 4), ([4], 5), ([3, 4, 5], 6), ([0, 1, 2, 3, 4, 5, 6], 7), ([0, 1, 2, 3, 4, 5, 6, 7], 8)] 7 (by decide +kernel) ?_; simp [hbl]) | (refine T_draw tOK tmix [([], 2), ([], 3), ([1], 4), ([1, 2], 5), ([1, 2, 3], 6), ([1, 2, 3, 4], 7), ([], 8), ([6], 9), ([6, 7], 10), ([6, 7, 8], 11), ([6, 7, 8, 9], 12), ([1, 2, 3, 4, 5, 6, 7, 8, 9, 10], 13), ([], 14), ([12], 15), ([12, 13], 16), ([12, 13, 14], 17), ([12, 13, 14, 15], 18), ([1, 2, 3, 4, 5, 6, 7, 8, 9, 10, 11, 12, 13, 14, 15, 16], 19), ([], 20), ([18], 21), ([18, 19], 22), ([18, 19, 20], 23), ([1, 2, 3, 4, 5, 6, 7, 8, 9, 10, 11, 12, 13, 14, 15, 16, 17, 18, 19, 20, 21], 24), ([1, 2, 3, 4, 5, 6, 7, 8, 9, 10, 11, 12, 13, 14, 15, 16, 17, 18, 19, 20, 21, 22], 0), ([0, 1, 2, 3, 4, 5, 6, 7, 8, 9, 10, 11, 12, 13, 14, 15, 16, 17, 18, 19, 20, 21, 22, 23], 1), ([0, 1, 2, 3, 4, 5, 6, 7, 8, 9, 10, 11, 12, 13, 14, 15, 16, 17, 18, 19, 20, 21, 22, 23, 24], 25)] 24 (by decide +kernel) ?_; simp [hbl]))
      refine TZ_seqk fun K1 hK1 => TZ_of_T ?_
      simp
      repeat (first | (refine T_seqk fun K hK => ?_) | (refine T_reg tOK rfl ?_; simp [hbl,hnz,e0,e0',l0,w1,w2,w3,w4,hn]) | (refine T_ret ?_; try simp) | (refine T_skip ?_; try simp) | (refine T_blockk fun K hK => ?_) | (with_reducible apply_assumption -exfalso -symm) | (rw [afterRF_ret]; simp [hbl,hnz,e0,e0',l0,w1,w2,w3,w4,hn]) | (refine T_exit ?_; try simp) | (refine T_cond_t ?_ ?_; · (simp; done)) | (refine T_cond_f ?_ ?_; · (simp; done)) | (rintro _ _ (_ | _) hz9 <;> first | (simp; done) | (simp at hz9; done)) | (refine And.intro ?_ ?_) | (simp only [Post.block_ret, Post.block_exit, Post.block_normal, Post.block_pan, Post.seq_ret, Post.seq_exit, Post.seq_normal, Post.seq_pan]; try simp [hbl,hnz,e0,e0',l0,w1,w2,w3,w4,hn]) | (refine T_draw tOK tmix [([], 0), ([0], 1), ([0, 1], 2), ([], 3), ([], 4), ([4], 5), ([3, 4, 5], 6), ([0, 1, 2, 3, 4, 5, 6], 7), ([0, 1, 2, 3, 4, 5, 6, 7], 8)] 7 (by decide +kernel) ?_; simp [hbl,hnz,e0,e0',l0,w1,w2,w3,w4,hn]) | (refine T_draw tOK tmix [([], 2), ([], 3), ([1], 4), ([1, 2], 5), ([1, 2, 3], 6), ([1, 2, 3, 4], 7), ([], 8), ([6], 9), ([6, 7], 10), ([6, 7, 8], 11), ([6, 7, 8, 9], 12), ([1, 2, 3, 4, 5, 6, 7, 8, 9, 10], 13), ([], 14), ([12], 15), ([12, 13], 16), ([12, 13, 14], 17), ([12, 13, 14, 15], 18), ([1, 2, 3, 4, 5, 6, 7, 8, 9, 10, 11, 12, 13, 14, 15, 16], 19), ([], 20), ([18], 21), ([18, 19], 22), ([18, 19, 20], 23), ([1, 2, 3, 4, 5, 6, 7, 8, 9, 10, 11, 12, 13, 14, 15, 16, 17, 18, 19, 20, 21], 24), ([1, 2, 3, 4, 5, 6, 7, 8, 9, 10, 11, 12, 13, 14, 15, 16, 17, 18, 19, 20, 21, 22], 0), ([0, 1, 2, 3, 4, 5, 6, 7, 8, 9, 10, 11, 12, 13, 14, 15, 16, 17, 18, 19, 20, 21, 22, 23], 1), ([0, 1, 2, 3, 4, 5, 6, 7, 8, 9, 10, 11, 12, 13, 14, 15, 16, 17, 18, 19, 20, 21, 22, 23, 24], 25)] 24 (by decide +kernel) ?_; simp [hbl,hnz,e0,e0',l0,w1,w2,w3,w4,hn]))
    | false =>
      have hlen : b'.length = 4 + 4 * x.toNat := by simp at hn; omega
      have : ¬ ((x :: b').length = 0 ∨ (x :: b').length ≠ 5 + 4 * ((x :: b').headD 0).toNat) := by simp; omega
      rw [if_neg this] at h
      clear this
      have hln : (x :: b').length - 4 = 1 + 4 * x.toNat := by simp; omega
      rw [hln] at h
      have w5 : IntKind.i64.wrap ((b'.length : Int) + 1 - 4) = ((1 + 4 * x.toNat : Nat) : Int) := by rw [IntWalk.i64_in _ (by omega)]; omega
      have tk : (u8l (x :: b')).take (1 + 4 * x.toNat) = u8l ((x :: b').take (1 + 4 * x.toNat)) := by simp [u8l, List.map_take]
      have dr : (u8l (x :: b')).drop (1 + 4 * x.toNat) = u8l ((x :: b').drop (1 + 4 * x.toNat)) := by simp [u8l, List.map_drop]
      have htl : ((x :: b').take (1 + 4 * x.toNat)).length = 1 + 4 * x.toNat := by simp; omega
      generalize hin : (x :: b').take (1 + 4 * x.toNat) = inner at *
      have htl' : (u8l inner).length = 1 + 4 * x.toNat := by rw [u8l_len, htl]
      have q1 : (1 + 4 * x.toNat : Nat) ≤ (u8l (x :: b')).length := by rw [hbl]; omega
      generalize hcs : (x :: b').drop (1 + 4 * x.toNat) = cks at *
      have hhd : ((x :: b').headD 0) = x := rfl
      generalize hF : x :: b' = full at *
      rw [hhd] at h
      push_cast at w5
      have q2 : (1 : Int) + 4 * x.toNat ≤ b'.length + 1 := by omega
      have q3 : ((1 : Int) + 4 * x.toNat).toNat = 1 + 4 * x.toNat := by omega
      have q4 : (0 : Int) ≤ 1 + 4 * x.toNat := by omega
      refine C_bodyDk tOK Try.func6 rfl (Nat.le_of_ble_eq_true rfl) fun K hK => ?_; simp
      refine TZ_seqk fun K1 hK1 => TZ_of_T ?_
      simp
      repeat (first | (refine T_seqk fun K hK => ?_) | (refine T_reg tOK rfl ?_; simp [hbl]) | (refine T_ret ?_; try simp) | (refine T_skip ?_; try simp) | (refine T_blockk fun K hK => ?_) | (with_reducible apply_assumption -exfalso -symm) | (rw [afterRF_ret]; simp [hbl]) | (refine T_exit ?_; try simp) | (refine T_cond_t ?_ ?_; · (simp; done)) | (refine T_cond_f ?_ ?_; · (simp; done)) | (rintro _ _ (_ | _) hz9 <;> first | (simp; done) | (simp at hz9; done)) | (refine And.intro ?_ ?_) | (simp only [Post.block_ret, Post.block_exit, Post.block_normal, Post.block_pan, Post.seq_ret, Post.seq_exit, Post.seq_normal, Post.seq_pan]; try simp [hbl]) | (refine T_draw tOK tmix [([], 0), ([0], 1), ([0, 1], 2), ([], 3), ([], 4), ([4], 5), ([3, 4, 5], 6), ([0, 1, 2, 3, 4, 5, 6], 7), ([0, 1, 2, 3, 4, 5, 6, 7], 8)] 7 (by decide +kernel) ?_; simp [hbl]) | (refine T_draw tOK tmix [([], 2), ([], 3), ([1], 4), ([1, 2], 5), ([1, 2, 3], 6), ([1, 2, 3, 4], 7), ([], 8), ([6], 9), ([6, 7], 10), ([6, 7, 8], 11), ([6, 7, 8, 9], 12), ([1, 2, 3, 4, 5, 6, 7, 8, 9, 10], 13), ([], 14), ([12], 15), ([12, 13], 16), ([12, 13, 14], 17), ([12, 13, 14, 15], 18), ([1, 2, 3, 4, 5, 6, 7, 8, 9, 10, 11, 12, 13, 14, 15, 16], 19), ([], 20), ([18], 21), ([18, 19], 22), ([18, 19, 20], 23), ([1, 2, 3, 4, 5, 6, 7, 8, 9, 10, 11, 12, 13, 14, 15, 16, 17, 18, 19, 20, 21], 24), ([1, 2, 3, 4, 5, 6, 7, 8, 9, 10, 11, 12, 13, 14, 15, 16, 17, 18, 19, 20, 21, 22], 0), ([0, 1, 2, 3, 4, 5, 6, 7, 8, 9, 10, 11, 12, 13, 14, 15, 16, 17, 18, 19, 20, 21, 22, 23], 1), ([0, 1, 2, 3, 4, 5, 6, 7, 8, 9, 10, 11, 12, 13, 14, 15, 16, 17, 18, 19, 20, 21, 22, 23, 24], 25)] 24 (by decide +kernel) ?_; simp [hbl]))
      refine TZ_seqk fun K1 hK1 => TZ_of_T ?_
      simp
      repeat (first | (refine T_seqk fun K hK => ?_) | (refine T_reg tOK rfl ?_; simp [hbl,hnz,e0,e0',l0,w1,w2,w3,w4,hn]) | (refine T_ret ?_; try simp) | (refine T_skip ?_; try simp) | (refine T_blockk fun K hK => ?_) | (with_reducible apply_assumption -exfalso -symm) | (rw [afterRF_ret]; simp [hbl,hnz,e0,e0',l0,w1,w2,w3,w4,hn]) | (refine T_exit ?_; try simp) | (refine T_cond_t ?_ ?_; · (simp; done)) | (refine T_cond_f ?_ ?_; · (simp; done)) | (rintro _ _ (_ | _) hz9 <;> first | (simp; done) | (simp at hz9; done)) | (refine And.intro ?_ ?_) | (simp only [Post.block_ret, Post.block_exit, Post.block_normal, Post.block_pan, Post.seq_ret, Post.seq_exit, Post.seq_normal, Post.seq_pan]; try simp [hbl,hnz,e0,e0',l0,w1,w2,w3,w4,hn]) | (refine T_draw tOK tmix [([], 0), ([0], 1), ([0, 1], 2), ([], 3), ([], 4), ([4], 5), ([3, 4, 5], 6), ([0, 1, 2, 3, 4, 5, 6], 7), ([0, 1, 2, 3, 4, 5, 6, 7], 8)] 7 (by decide +kernel) ?_; simp [hbl,hnz,e0,e0',l0,w1,w2,w3,w4,hn]) | (refine T_draw tOK tmix [([], 2), ([], 3), ([1], 4), ([1, 2], 5), ([1, 2, 3], 6), ([1, 2, 3, 4], 7), ([], 8), ([6], 9), ([6, 7], 10), ([6, 7, 8], 11), ([6, 7, 8, 9], 12), ([1, 2, 3, 4, 5, 6, 7, 8, 9, 10], 13), ([], 14), ([12], 15), ([12, 13], 16), ([12, 13, 14], 17), ([12, 13, 14, 15], 18), ([1, 2, 3, 4, 5, 6, 7, 8, 9, 10, 11, 12, 13, 14, 15, 16], 19), ([], 20), ([18], 21), ([18, 19], 22), ([18, 19, 20], 23), ([1, 2, 3, 4, 5, 6, 7, 8, 9, 10, 11, 12, 13, 14, 15, 16, 17, 18, 19, 20, 21], 24), ([1, 2, 3, 4, 5, 6, 7, 8, 9, 10, 11, 12, 13, 14, 15, 16, 17, 18, 19, 20, 21, 22], 0), ([0, 1, 2, 3, 4, 5, 6, 7, 8, 9, 10, 11, 12, 13, 14, 15, 16, 17, 18, 19, 20, 21, 22, 23], 1), ([0, 1, 2, 3, 4, 5, 6, 7, 8, 9, 10, 11, 12, 13, 14, 15, 16, 17, 18, 19, 20, 21, 22, 23, 24], 25)] 24 (by decide +kernel) ?_; simp [hbl,hnz,e0,e0',l0,w1,w2,w3,w4,hn]))
      refine TZ_seqk fun K1 hK1 => TZ_of_T ?_
      simp
      repeat (first | (refine T_seqk fun K hK => ?_) | (refine T_reg tOK rfl ?_; simp [hbl,w5,tk,q1,q2,q3,q4]) | (refine T_ret ?_; try simp) | (refine T_skip ?_; try simp) | (refine T_blockk fun K hK => ?_) | (with_reducible apply_assumption -exfalso -symm) | (rw [afterRF_ret]; simp [hbl,w5,tk,q1,q2,q3,q4]) | (refine T_exit ?_; try simp) | (refine T_cond_t ?_ ?_; · (simp; done)) | (refine T_cond_f ?_ ?_; · (simp; done)) | (rintro _ _ (_ | _) hz9 <;> first | (simp; done) | (simp at hz9; done)) | (refine And.intro ?_ ?_) | (simp only [Post.block_ret, Post.block_exit, Post.block_normal, Post.block_pan, Post.seq_ret, Post.seq_exit, Post.seq_normal, Post.seq_pan]; try simp [hbl,w5,tk,q1,q2,q3,q4]) | (refine T_draw tOK tmix [([], 0), ([0], 1), ([0, 1], 2), ([], 3), ([], 4), ([4], 5), ([3, 4, 5], 6), ([0, 1, 2, 3, 4, 5, 6], 7), ([0, 1, 2, 3, 4, 5, 6, 7], 8)] 7 (by decide +kernel) ?_; simp [hbl,w5,tk,q1,q2,q3,q4]) | (refine T_draw tOK tmix [([], 2), ([], 3), ([1], 4), ([1, 2], 5), ([1, 2, 3], 6), ([1, 2, 3, 4], 7), ([], 8), ([6], 9), ([6, 7], 10), ([6, 7, 8], 11), ([6, 7, 8, 9], 12), ([1, 2, 3, 4, 5, 6, 7, 8, 9, 10], 13), ([], 14), ([12], 15), ([12, 13], 16), ([12, 13, 14], 17), ([12, 13, 14, 15], 18), ([1, 2, 3, 4, 5, 6, 7, 8, 9, 10, 11, 12, 13, 14, 15, 16], 19), ([], 20), ([18], 21), ([18, 19], 22), ([18, 19, 20], 23), ([1, 2, 3, 4, 5, 6, 7, 8, 9, 10, 11, 12, 13, 14, 15, 16, 17, 18, 19, 20, 21], 24), ([1, 2, 3, 4, 5, 6, 7, 8, 9, 10, 11, 12, 13, 14, 15, 16, 17, 18, 19, 20, 21, 22], 0), ([0, 1, 2, 3, 4, 5, 6, 7, 8, 9, 10, 11, 12, 13, 14, 15, 16, 17, 18, 19, 20, 21, 22, 23], 1), ([0, 1, 2, 3, 4, 5, 6, 7, 8, 9, 10, 11, 12, 13, 14, 15, 16, 17, 18, 19, 20, 21, 22, 23, 24], 25)] 24 (by decide +kernel) ?_; simp [hbl,w5,tk,q1,q2,q3,q4]))
      refine TZ_seqk fun K1 hK1 => TZ_of_T ?_
      simp
      have hi1 : inner.length < 1000000000 := by omega
      have hcl : cks.length = 4 := by rw [← hcs, ← hF]; simp; omega
      have q5 : 1 + 4 * x.toNat ≤ b'.length + 1 := by omega
      refine T_seqk fun K hK => ?_
      refine T_draw tOK tmix [([], 0), ([0], 1), ([0, 1], 2), ([], 3), ([], 4), ([4], 5), ([3, 4, 5], 6), ([0, 1, 2, 3, 4, 5, 6], 7), ([0, 1, 2, 3, 4, 5, 6, 7], 8)] 7 (by decide +kernel) ?_
      simp
      refine RD_call (rd := []) (fun τ _ => C_of hi1 ⟨rfl, rfl⟩) ?_
      simp
      refine RD_call (rd := []) (fun τ _ => C_four ⟨rfl, rfl⟩) ?_
      simp [htl',hbl,q2,q3,q4,q5,dr]
      refine C_equal (by simp [be4_len]) ?_
      cases hs : (be4 (crc inner) == cks) with
      | false =>
        have : be4 (crc inner) ≠ cks := by simpa using hs
        rw [if_pos this] at h
        simp [is] at h
        repeat (first | (refine T_seqk fun K hK => ?_) | (refine T_reg tOK rfl ?_; simp [hbl]) | (refine T_ret ?_; try simp) | (refine T_skip ?_; try simp) | (refine T_blockk fun K hK => ?_) | (with_reducible apply_assumption -exfalso -symm) | (rw [afterRF_ret]; simp [hbl]) | (refine T_exit ?_; try simp) | (refine T_cond_t ?_ ?_; · (simp; done)) | (refine T_cond_f ?_ ?_; · (simp; done)) | (rintro _ _ (_ | _) hz9 <;> first | (simp; done) | (simp at hz9; done)) | (refine And.intro ?_ ?_) | (simp only [Post.block_ret, Post.block_exit, Post.block_normal, Post.block_pan, Post.seq_ret, Post.seq_exit, Post.seq_normal, Post.seq_pan]; try simp [hbl]) | (refine T_draw tOK tmix [([], 0), ([0], 1), ([0, 1], 2), ([], 3), ([], 4), ([4], 5), ([3, 4, 5], 6), ([0, 1, 2, 3, 4, 5, 6], 7), ([0, 1, 2, 3, 4, 5, 6, 7], 8)] 7 (by decide +kernel) ?_; simp [hbl]) | (refine T_draw tOK tmix [([], 2), ([], 3), ([1], 4), ([1, 2], 5), ([1, 2, 3], 6), ([1, 2, 3, 4], 7), ([], 8), ([6], 9), ([6, 7], 10), ([6, 7, 8], 11), ([6, 7, 8, 9], 12), ([1, 2, 3, 4, 5, 6, 7, 8, 9, 10], 13), ([], 14), ([12], 15), ([12, 13], 16), ([12, 13, 14], 17), ([12, 13, 14, 15], 18), ([1, 2, 3, 4, 5, 6, 7, 8, 9, 10, 11, 12, 13, 14, 15, 16], 19), ([], 20), ([18], 21), ([18, 19], 22), ([18, 19, 20], 23), ([1, 2, 3, 4, 5, 6, 7, 8, 9, 10, 11, 12, 13, 14, 15, 16, 17, 18, 19, 20, 21], 24), ([1, 2, 3, 4, 5, 6, 7, 8, 9, 10, 11, 12, 13, 14, 15, 16, 17, 18, 19, 20, 21, 22], 0), ([0, 1, 2, 3, 4, 5, 6, 7, 8, 9, 10, 11, 12, 13, 14, 15, 16, 17, 18, 19, 20, 21, 22, 23], 1), ([0, 1, 2, 3, 4, 5, 6, 7, 8, 9, 10, 11, 12, 13, 14, 15, 16, 17, 18, 19, 20, 21, 22, 23, 24], 25)] 24 (by decide +kernel) ?_; simp [hbl]))
      | true =>
        have : ¬ be4 (crc inner) ≠ cks := by simpa using hs
        rw [if_neg this] at h
        repeat (first | (refine T_seqk fun K hK => ?_) | (refine T_reg tOK rfl ?_; simp [hbl]) | (refine T_ret ?_; try simp) | (refine T_skip ?_; try simp) | (refine T_blockk fun K hK => ?_) | (with_reducible apply_assumption -exfalso -symm) | (rw [afterRF_ret]; simp [hbl]) | (refine T_exit ?_; try simp) | (refine T_cond_t ?_ ?_; · (simp; done)) | (refine T_cond_f ?_ ?_; · (simp; done)) | (rintro _ _ (_ | _) hz9 <;> first | (simp; done) | (simp at hz9; done)) | (refine And.intro ?_ ?_) | (simp only [Post.block_ret, Post.block_exit, Post.block_normal, Post.block_pan, Post.seq_ret, Post.seq_exit, Post.seq_normal, Post.seq_pan]; try simp [hbl]) | (refine T_draw tOK tmix [([], 0), ([0], 1), ([0, 1], 2), ([], 3), ([], 4), ([4], 5), ([3, 4, 5], 6), ([0, 1, 2, 3, 4, 5, 6], 7), ([0, 1, 2, 3, 4, 5, 6, 7], 8)] 7 (by decide +kernel) ?_; simp [hbl]) | (refine T_draw tOK tmix [([], 2), ([], 3), ([1], 4), ([1, 2], 5), ([1, 2, 3], 6), ([1, 2, 3, 4], 7), ([], 8), ([6], 9), ([6, 7], 10), ([6, 7, 8], 11), ([6, 7, 8, 9], 12), ([1, 2, 3, 4, 5, 6, 7, 8, 9, 10], 13), ([], 14), ([12], 15), ([12, 13], 16), ([12, 13, 14], 17), ([12, 13, 14, 15], 18), ([1, 2, 3, 4, 5, 6, 7, 8, 9, 10, 11, 12, 13, 14, 15, 16], 19), ([], 20), ([18], 21), ([18, 19], 22), ([18, 19, 20], 23), ([1, 2, 3, 4, 5, 6, 7, 8, 9, 10, 11, 12, 13, 14, 15, 16, 17, 18, 19, 20, 21], 24), ([1, 2, 3, 4, 5, 6, 7, 8, 9, 10, 11, 12, 13, 14, 15, 16, 17, 18, 19, 20, 21, 22], 0), ([0, 1, 2, 3, 4, 5, 6, 7, 8, 9, 10, 11, 12, 13, 14, 15, 16, 17, 18, 19, 20, 21, 22, 23], 1), ([0, 1, 2, 3, 4, 5, 6, 7, 8, 9, 10, 11, 12, 13, 14, 15, 16, 17, 18, 19, 20, 21, 22, 23, 24], 25)] 24 (by decide +kernel) ?_; simp [hbl]))
        refine TZ_seqk fun K1 hK1 => TZ_of_T ?_
        simp
        repeat (first | (refine T_seqk fun K hK => ?_) | (refine T_reg tOK rfl ?_; simp [hbl]) | (refine T_ret ?_; try simp) | (refine T_skip ?_; try simp) | (refine T_blockk fun K hK => ?_) | (with_reducible apply_assumption -exfalso -symm) | (rw [afterRF_ret]; simp [hbl]) | (refine T_exit ?_; try simp) | (refine T_cond_t ?_ ?_; · (simp; done)) | (refine T_cond_f ?_ ?_; · (simp; done)) | (rintro _ _ (_ | _) hz9 <;> first | (simp; done) | (simp at hz9; done)) | (refine And.intro ?_ ?_) | (simp only [Post.block_ret, Post.block_exit, Post.block_normal, Post.block_pan, Post.seq_ret, Post.seq_exit, Post.seq_normal, Post.seq_pan]; try simp [hbl]) | (refine T_draw tOK tmix [([], 0), ([0], 1), ([0, 1], 2), ([], 3), ([], 4), ([4], 5), ([3, 4, 5], 6), ([0, 1, 2, 3, 4, 5, 6], 7), ([0, 1, 2, 3, 4, 5, 6, 7], 8)] 7 (by decide +kernel) ?_; simp [hbl]) | (refine T_draw tOK tmix [([], 2), ([], 3), ([1], 4), ([1, 2], 5), ([1, 2, 3], 6), ([1, 2, 3, 4], 7), ([], 8), ([6], 9), ([6, 7], 10), ([6, 7, 8], 11), ([6, 7, 8, 9], 12), ([1, 2, 3, 4, 5, 6, 7, 8, 9, 10], 13), ([], 14), ([12], 15), ([12, 13], 16), ([12, 13, 14], 17), ([12, 13, 14, 15], 18), ([1, 2, 3, 4, 5, 6, 7, 8, 9, 10, 11, 12, 13, 14, 15, 16], 19), ([], 20), ([18], 21), ([18, 19], 22), ([18, 19, 20], 23), ([1, 2, 3, 4, 5, 6, 7, 8, 9, 10, 11, 12, 13, 14, 15, 16, 17, 18, 19, 20, 21], 24), ([1, 2, 3, 4, 5, 6, 7, 8, 9, 10, 11, 12, 13, 14, 15, 16, 17, 18, 19, 20, 21, 22], 0), ([0, 1, 2, 3, 4, 5, 6, 7, 8, 9, 10, 11, 12, 13, 14, 15, 16, 17, 18, 19, 20, 21, 22, 23], 1), ([0, 1, 2, 3, 4, 5, 6, 7, 8, 9, 10, 11, 12, 13, 14, 15, 16, 17, 18, 19, 20, 21, 22, 23, 24], 25)] 24 (by decide +kernel) ?_; simp [hbl]))
        obtain ⟨xs, hxs⟩ : ∃ xs, inner.drop 1 = xs := ⟨_, rfl⟩
        rw [hxs] at h
        have dr1 : (u8l inner).drop 1 = u8l xs := by rw [← hxs]; simp only [u8l, List.map_drop]
        have p1 : (1 : Int) ≤ (u8l inner).length := by omega
        have p2 : 1 ≤ (u8l inner).length := by omega
        refine TZ_seqk fun K2 hK2 => ?_
        refine TZ_seqk fun K3 hK3 => TZ_of_T ?_
        simp
        repeat (first | (refine T_seqk fun K hK => ?_) | (refine T_reg tOK rfl ?_; simp [p1,p2,dr1]) | (refine T_ret ?_; try simp) | (refine T_skip ?_; try simp) | (refine T_blockk fun K hK => ?_) | (with_reducible apply_assumption -exfalso -symm) | (rw [afterRF_ret]; simp [p1,p2,dr1]) | (refine T_exit ?_; try simp) | (refine T_cond_t ?_ ?_; · (simp; done)) | (refine T_cond_f ?_ ?_; · (simp; done)) | (rintro _ _ (_ | _) hz9 <;> first | (simp; done) | (simp at hz9; done)) | (refine And.intro ?_ ?_) | (simp only [Post.block_ret, Post.block_exit, Post.block_normal, Post.block_pan, Post.seq_ret, Post.seq_exit, Post.seq_normal, Post.seq_pan]; try simp [p1,p2,dr1]) | (refine T_draw tOK tmix [([], 0), ([0], 1), ([0, 1], 2), ([], 3), ([], 4), ([4], 5), ([3, 4, 5], 6), ([0, 1, 2, 3, 4, 5, 6], 7), ([0, 1, 2, 3, 4, 5, 6, 7], 8)] 7 (by decide +kernel) ?_; simp [p1,p2,dr1]) | (refine T_draw tOK tmix [([], 2), ([], 3), ([1], 4), ([1, 2], 5), ([1, 2, 3], 6), ([1, 2, 3, 4], 7), ([], 8), ([6], 9), ([6, 7], 10), ([6, 7, 8], 11), ([6, 7, 8, 9], 12), ([1, 2, 3, 4, 5, 6, 7, 8, 9, 10], 13), ([], 14), ([12], 15), ([12, 13], 16), ([12, 13, 14], 17), ([12, 13, 14, 15], 18), ([1, 2, 3, 4, 5, 6, 7, 8, 9, 10, 11, 12, 13, 14, 15, 16], 19), ([], 20), ([18], 21), ([18, 19], 22), ([18, 19, 20], 23), ([1, 2, 3, 4, 5, 6, 7, 8, 9, 10, 11, 12, 13, 14, 15, 16, 17, 18, 19, 20, 21], 24), ([1, 2, 3, 4, 5, 6, 7, 8, 9, 10, 11, 12, 13, 14, 15, 16, 17, 18, 19, 20, 21, 22], 0), ([0, 1, 2, 3, 4, 5, 6, 7, 8, 9, 10, 11, 12, 13, 14, 15, 16, 17, 18, 19, 20, 21, 22, 23], 1), ([0, 1, 2, 3, 4, 5, 6, 7, 8, 9, 10, 11, 12, 13, 14, 15, 16, 17, 18, 19, 20, 21, 22, 23, 24], 25)] 24 (by decide +kernel) ?_; simp [p1,p2,dr1]) | (refine C_chunk ?_; simp [p1,p2,dr1]))
        refine TZ_block ?_
        refine TZ_rangek tOK [5] rfl rfl fun l ac bd Q' hac hbd hQ' => ?_
        simp [Fr.keep]
        have hxl : xs.length = 4 * x.toNat := by rw [← hxs]; simp; omega
        have hxl' : (u8l xs).length = 4 * x.toNat := by rw [u8l_len, hxl]
        generalize hc : x.toNat = c at *
        refine C_bodyk tOK Try.func66 rfl (Nat.le_of_ble_eq_true rfl) fun K hK => ?_; simp
        repeat (first | (refine T_seqk fun K hK => ?_) | (refine T_reg tOK rfl ?_; simp [p1]) | (refine T_ret ?_; try simp) | (refine T_skip ?_; try simp) | (refine T_blockk fun K hK => ?_) | (with_reducible apply_assumption -exfalso -symm) | (rw [afterRF_ret]; simp [p1]) | (refine T_exit ?_; try simp) | (refine T_cond_t ?_ ?_; · (simp; done)) | (refine T_cond_f ?_ ?_; · (simp; done)) | (rintro _ _ (_ | _) hz9 <;> first | (simp; done) | (simp at hz9; done)) | (refine And.intro ?_ ?_) | (simp only [Post.block_ret, Post.block_exit, Post.block_normal, Post.block_pan, Post.seq_ret, Post.seq_exit, Post.seq_normal, Post.seq_pan]; try simp [p1]) | (refine T_draw tOK tmix [([], 0), ([], 1), ([], 2), ([1, 2], 3), ([1, 2, 3], 4), ([0, 1, 2, 3, 4], 5), ([0, 1, 2, 3, 4, 5], 6)] 5 (by decide +kernel) ?_; simp [p1]))
        refine T_loop ?_
        refine TL_keep [0, 1, 2, 4] ?_
        simp [Fr.keep]
        refine TL_st c (fun j fr σ => fr = [(0, .fn (.yield l) [] []), (1, .laddr (u8s xs)), (2, .laddr (i64 4)), (4, i64 ((4 * j : Nat) : Int))] ∧
          ((j = 0 ∧ σ = [none, none, none, none, none, none, none, none, none, some (.cells 22 0 [.nils]), some (.loop l .ready none 69 [(5, .ptr 9 0 0 [])] #[39] ac bd)]) ∨
           (∃ g y, 0 < j ∧ σ = [none, none, none, none, none, none, none, none, none, some (.cells 22 0 [.ref 44 g 0 j]), some (.loop l .ready none 69 [(5, .ptr 9 0 0 [])] #[39] ac bd), none, none, none, none, none, none, none, some (.cells 2 0 [.int .i64 y]), none, none, none, none, none, none, none, none, none, none, none, none, none, none, none, none, none, none, none, none, none, none, none, none, none, some (.cells 2 g (is (chunks xs j)))]))) ?_ ?_ ⟨rfl, .inl ⟨rfl, rfl⟩⟩
        · rintro fr σ ⟨rfl, hσ⟩
          refine TL_round ?_
          rcases hσ with ⟨hj0, rfl⟩ | ⟨g, y, hj0, rfl⟩
          · subst hQ'
            rw [hj0, show okL (chunks xs 0) = false from rfl] at h
            simp [is] at h
            repeat (first | (refine T_seqk fun K hK => ?_) | (refine T_reg tOK rfl ?_; simp [hxl']) | (refine T_ret ?_; try simp) | (refine T_skip ?_; try simp) | (refine T_blockk fun K hK => ?_) | (with_reducible apply_assumption -exfalso -symm) | (rw [afterRF_ret]; simp [hxl']) | (refine T_exit ?_; try simp) | (refine T_cond_t ?_ ?_; · (simp; done)) | (refine T_cond_f ?_ ?_; · (simp; done)) | (rintro _ _ (_ | _) hz9 <;> first | (simp; done) | (simp at hz9; done)) | (refine And.intro ?_ ?_) | (simp only [Post.block_ret, Post.block_exit, Post.block_normal, Post.block_pan, Post.seq_ret, Post.seq_exit, Post.seq_normal, Post.seq_pan]; try simp [hxl']) | (refine T_draw tOK tmix [([], 0), ([], 1), ([], 2), ([1, 2], 3), ([1, 2, 3], 4), ([0, 1, 2, 3, 4], 5), ([0, 1, 2, 3, 4, 5], 6)] 5 (by decide +kernel) ?_; simp [hxl']))
            refine TZ_seqk fun K1 hK1 => TZ_of_T ?_
            simp
            repeat (first | (refine T_seqk fun K hK => ?_) | (refine T_reg tOK rfl ?_; simp) | (refine T_ret ?_; try simp) | (refine T_skip ?_; try simp) | (refine T_blockk fun K hK => ?_) | (with_reducible apply_assumption -exfalso -symm) | (rw [afterRF_ret]; simp) | (refine T_exit ?_; try simp) | (refine T_cond_t ?_ ?_; · (simp; done)) | (refine T_cond_f ?_ ?_; · (simp; done)) | (rintro _ _ (_ | _) hz9 <;> first | (simp; done) | (simp at hz9; done)) | (refine And.intro ?_ ?_) | (simp only [Post.block_ret, Post.block_exit, Post.block_normal, Post.block_pan, Post.seq_ret, Post.seq_exit, Post.seq_normal, Post.seq_pan]; try simp) | (refine T_draw tOK tmix [([], 0), ([], 1), ([], 2), ([1, 2], 3), ([1, 2, 3], 4), ([0, 1, 2, 3, 4], 5), ([0, 1, 2, 3, 4, 5], 6)] 5 (by decide +kernel) ?_; simp) | (refine C_right_nils ?_; simp))
          · subst hQ'
            have hcln := chunks_len xs c
            repeat (first | (refine T_seqk fun K hK => ?_) | (refine T_reg tOK rfl ?_; simp [hxl']) | (refine T_ret ?_; try simp) | (refine T_skip ?_; try simp) | (refine T_blockk fun K hK => ?_) | (with_reducible apply_assumption -exfalso -symm) | (rw [afterRF_ret]; simp [hxl']) | (refine T_exit ?_; try simp) | (refine T_cond_t ?_ ?_; · (simp; done)) | (refine T_cond_f ?_ ?_; · (simp; done)) | (rintro _ _ (_ | _) hz9 <;> first | (simp; done) | (simp at hz9; done)) | (refine And.intro ?_ ?_) | (simp only [Post.block_ret, Post.block_exit, Post.block_normal, Post.block_pan, Post.seq_ret, Post.seq_exit, Post.seq_normal, Post.seq_pan]; try simp [hxl']) | (refine T_draw tOK tmix [([], 0), ([], 1), ([], 2), ([1, 2], 3), ([1, 2, 3], 4), ([0, 1, 2, 3, 4], 5), ([0, 1, 2, 3, 4, 5], 6)] 5 (by decide +kernel) ?_; simp [hxl']))
            refine TZ_seqk fun K1 hK1 => TZ_of_T ?_
            simp
            refine T_seqk fun K hK => ?_
            refine T_reg tOK rfl ?_
            simp
            refine C_right_ref (l := chunks xs c) rfl hcln.symm (by omega) ?_
            cases hok : okL (chunks xs c) with
            | false =>
              rw [hok] at h
              simp [is] at h
              repeat (first | (refine T_seqk fun K hK => ?_) | (refine T_reg tOK rfl ?_; simp) | (refine T_ret ?_; try simp) | (refine T_skip ?_; try simp) | (refine T_blockk fun K hK => ?_) | (with_reducible apply_assumption -exfalso -symm) | (rw [afterRF_ret]; simp) | (refine T_exit ?_; try simp) | (refine T_cond_t ?_ ?_; · (simp; done)) | (refine T_cond_f ?_ ?_; · (simp; done)) | (rintro _ _ (_ | _) hz9 <;> first | (simp; done) | (simp at hz9; done)) | (refine And.intro ?_ ?_) | (simp only [Post.block_ret, Post.block_exit, Post.block_normal, Post.block_pan, Post.seq_ret, Post.seq_exit, Post.seq_normal, Post.seq_pan]; try simp) | (refine T_draw tOK tmix [([], 0), ([], 1), ([], 2), ([1, 2], 3), ([1, 2, 3], 4), ([0, 1, 2, 3, 4], 5), ([0, 1, 2, 3, 4, 5], 6)] 5 (by decide +kernel) ?_; simp))
            | true =>
              rw [hok] at h
              simp at h
              repeat (first | (refine T_seqk fun K hK => ?_) | (refine T_reg tOK rfl ?_; simp) | (refine T_ret ?_; try simp) | (refine T_skip ?_; try simp) | (refine T_blockk fun K hK => ?_) | (with_reducible apply_assumption -exfalso -symm) | (rw [afterRF_ret]; simp) | (refine T_exit ?_; try simp) | (refine T_cond_t ?_ ?_; · (simp; done)) | (refine T_cond_f ?_ ?_; · (simp; done)) | (rintro _ _ (_ | _) hz9 <;> first | (simp; done) | (simp at hz9; done)) | (refine And.intro ?_ ?_) | (simp only [Post.block_ret, Post.block_exit, Post.block_normal, Post.block_pan, Post.seq_ret, Post.seq_exit, Post.seq_normal, Post.seq_pan]; try simp) | (refine T_draw tOK tmix [([], 0), ([], 1), ([], 2), ([1, 2], 3), ([1, 2, 3], 4), ([0, 1, 2, 3, 4], 5), ([0, 1, 2, 3, 4, 5], 6)] 5 (by decide +kernel) ?_; simp))
              refine TZ_of_T ?_
              simp
              repeat (first | (refine T_seqk fun K hK => ?_) | (refine T_reg tOK rfl ?_; simp) | (refine T_ret ?_; try simp) | (refine T_skip ?_; try simp) | (refine T_blockk fun K hK => ?_) | (with_reducible apply_assumption -exfalso -symm) | (rw [afterRF_ret]; simp) | (refine T_exit ?_; try simp) | (refine T_cond_t ?_ ?_; · (simp; done)) | (refine T_cond_f ?_ ?_; · (simp; done)) | (rintro _ _ (_ | _) hz9 <;> first | (simp; done) | (simp at hz9; done)) | (refine And.intro ?_ ?_) | (simp only [Post.block_ret, Post.block_exit, Post.block_normal, Post.block_pan, Post.seq_ret, Post.seq_exit, Post.seq_normal, Post.seq_pan]; try simp) | (refine T_draw tOK tmix [([], 0), ([], 1), ([], 2), ([1, 2], 3), ([1, 2, 3], 4), ([0, 1, 2, 3, 4], 5), ([0, 1, 2, 3, 4, 5], 6)] 5 (by decide +kernel) ?_; simp))
              simp only [frzRe]
              rw [frz_pair (n := 5) (frz_isrow (m := 3) (l := chunks xs c) rfl hcln.symm) rfl]
              exact h
        · rintro j fr σ hj ⟨rfl, hσ⟩ ih
          replace ih := PLift.up ih
          have g0 : decide (j < c) = true := by simpa using hj
          have n1 : (0 : Int) ≤ 4 * j := by omega
          have n2 : 4 * (j : Int) ≤ 4 * c := by omega
          have n3 : (4 * (j : Int)).toNat = 4 * j := by omega
          have n4 : j ≤ c := by omega
          have m1 : (4 * (c : Int)).toNat = 4 * c := by omega
          have m2 : min (4 : Int) ((4 * c - 4 * j : Nat) : Int) = 4 := by omega
          have m3 : IntKind.i64.wrap (4 * (j : Int) + 4) = 4 * j + 4 := IntWalk.i64_in _ (by omega)
          have m5 : 4 * (j : Int) + 4 ≤ 4 * c := by omega
          have m9 : 4 * (j : Int) ≤ 4 * j + 4 := by omega
          have m6 : (4 * (j : Int) + 4).toNat = 4 * j + 4 := by omega
          obtain ⟨a1, a2, a3, a4, h4⟩ := four_of (xs := xs.drop (4 * j)) (by simp; omega)
          have m7 : List.take 4 (List.drop (4 * j) (u8l xs)) = u8l [a1, a2, a3, a4] := by rw [← h4]; simp [u8l, List.map_take, List.map_drop]
          have m8 : List.drop (4 * j) (List.take (4 * j + 4) (u8l xs)) = u8l [a1, a2, a3, a4] := by rw [← m7, List.drop_take]; congr 1; omega
          obtain ⟨f1, f2, f3, f4, s1, s2, s3, o1, o2, o3⟩ := rd4_facts a1 a2 a3 a4
          have hch := chunks_succ xs j
          rw [h4] at hch
          have w4 : IntKind.i64.wrap (4 * (j : Int) + 4) = 4 * j + 4 := m3
          refine TL_round ?_
          rcases hσ with ⟨hj0, rfl⟩ | ⟨g, y, hj0, rfl⟩
          · skip
            repeat (first | (refine T_seqk fun K hK => ?_) | (refine T_reg tOK rfl ?_; simp [hxl',g0,n1,n2,n3,n4,m1,m2,m3,m5,m6,m8,m9]) | (refine T_ret ?_; try simp) | (refine T_skip ?_; try simp) | (refine T_blockk fun K hK => ?_) | (with_reducible apply_assumption -exfalso -symm) | (rw [afterRF_ret]; simp [hxl',g0,n1,n2,n3,n4,m1,m2,m3,m5,m6,m8,m9]) | (refine T_exit ?_; try simp) | (refine T_cond_t ?_ ?_; · (simp; done)) | (refine T_cond_f ?_ ?_; · (simp; done)) | (rintro _ _ (_ | _) hz9 <;> first | (simp; done) | (simp at hz9; done)) | (refine And.intro ?_ ?_) | (simp only [Post.block_ret, Post.block_exit, Post.block_normal, Post.block_pan, Post.seq_ret, Post.seq_exit, Post.seq_normal, Post.seq_pan]; try simp [hxl',g0,n1,n2,n3,n4,m1,m2,m3,m5,m6,m8,m9]) | (refine T_draw tOK tmix [([], 0), ([], 1), ([], 2), ([1, 2], 3), ([1, 2, 3], 4), ([0, 1, 2, 3, 4], 5), ([0, 1, 2, 3, 4, 5], 6)] 5 (by decide +kernel) ?_; simp [hxl',g0,n1,n2,n3,n4,m1,m2,m3,m5,m6,m8,m9]))
            refine YR_walk 10 (n := 69) (fr0 := [(5, .ptr 9 0 0 [])]) (ps := #[39]) (ac := ac) (bd := bd) (pend := none) ?_ ?_ ?_ ?_
            · rfl
            · rfl
            · decide
            refine T_cast hac ?_
            simp [putsF]
            refine T_reg tOK rfl ?_
            simp
            refine ⟨_, _, ⟨rfl, rfl⟩, ?_⟩
            refine get_round0 (ac := ac) (by rw [hac, hbd]; rfl) rfl rfl fun fr => ?_
            simp only [roundQ]
            simp
            repeat (first | (refine T_seqk fun K hK => ?_) | (refine T_reg tOK rfl ?_; simp [m3]) | (refine T_ret ?_; try simp) | (refine T_skip ?_; try simp) | (refine T_blockk fun K hK => ?_) | (with_reducible apply_assumption -exfalso -symm) | (rw [afterRF_ret]; simp [m3]) | (refine T_exit ?_; try simp) | (refine T_cond_t ?_ ?_; · (simp; done)) | (refine T_cond_f ?_ ?_; · (simp; done)) | (rintro _ _ (_ | _) hz9 <;> first | (simp; done) | (simp at hz9; done)) | (refine And.intro ?_ ?_) | (simp only [Post.block_ret, Post.block_exit, Post.block_normal, Post.block_pan, Post.seq_ret, Post.seq_exit, Post.seq_normal, Post.seq_pan]; try simp [m3]) | (refine T_draw tOK tmix [([], 0), ([], 1), ([], 2), ([1, 2], 3), ([1, 2, 3], 4), ([0, 1, 2, 3, 4], 5), ([0, 1, 2, 3, 4, 5], 6)] 5 (by decide +kernel) ?_; simp [m3]))
            refine TL_fall (fr' := [(0, .fn (.yield l) [] []), (1, .laddr (u8s xs)), (2, .laddr (i64 4)), (4, i64 ((4 * (j + 1) : Nat) : Int))]) (σ' := [none, none, none, none, none, none, none, none, none, some (.cells 22 0 [.ref 44 0 0 1]), some (.loop l .ready none 69 [(5, .ptr 9 0 0 [])] #[39] ac bd), none, none, none, none, none, none, none, some (.cells 2 0 [.int .i64 (rd4 [a1, a2, a3, a4])]), none, none, none, none, none, none, none, none, none, none, none, none, none, none, none, none, none, none, none, none, none, none, none, none, none, some (.cells 2 0 (is [(rd4 [a1, a2, a3, a4])]))]) 45 [0, 1, 2, 4] (by simp) (by simp [Fr.keep]; omega) (by simp [belowFr, belowB, belowL_of_pure 45 _ (pureL_u8 xs), belowL]) (by simp) (by simp [belowStore, belowBlk, belowL_of_pure 45 _ (pureL_is _), belowL, belowB]) (ih.down _ _ ⟨rfl, .inr ⟨0, (rd4 [a1, a2, a3, a4]), by omega, ?_⟩⟩)
            rw [hch]; subst hj0; rfl
          · skip
            repeat (first | (refine T_seqk fun K hK => ?_) | (refine T_reg tOK rfl ?_; simp [hxl',g0,n1,n2,n3,n4,m1,m2,m3,m5,m6,m8,m9]) | (refine T_ret ?_; try simp) | (refine T_skip ?_; try simp) | (refine T_blockk fun K hK => ?_) | (with_reducible apply_assumption -exfalso -symm) | (rw [afterRF_ret]; simp [hxl',g0,n1,n2,n3,n4,m1,m2,m3,m5,m6,m8,m9]) | (refine T_exit ?_; try simp) | (refine T_cond_t ?_ ?_; · (simp; done)) | (refine T_cond_f ?_ ?_; · (simp; done)) | (rintro _ _ (_ | _) hz9 <;> first | (simp; done) | (simp at hz9; done)) | (refine And.intro ?_ ?_) | (simp only [Post.block_ret, Post.block_exit, Post.block_normal, Post.block_pan, Post.seq_ret, Post.seq_exit, Post.seq_normal, Post.seq_pan]; try simp [hxl',g0,n1,n2,n3,n4,m1,m2,m3,m5,m6,m8,m9]) | (refine T_draw tOK tmix [([], 0), ([], 1), ([], 2), ([1, 2], 3), ([1, 2, 3], 4), ([0, 1, 2, 3, 4], 5), ([0, 1, 2, 3, 4, 5], 6)] 5 (by decide +kernel) ?_; simp [hxl',g0,n1,n2,n3,n4,m1,m2,m3,m5,m6,m8,m9]))
            refine YR_walk 10 (n := 69) (fr0 := [(5, .ptr 9 0 0 [])]) (ps := #[39]) (ac := ac) (bd := bd) (pend := none) ?_ ?_ ?_ ?_
            · rfl
            · rfl
            · decide
            refine T_cast hac ?_
            simp [putsF]
            refine T_reg tOK rfl ?_
            simp
            refine ⟨_, _, ⟨rfl, rfl⟩, ?_⟩
            refine get_round1 (ac := ac) (L := chunks xs j) (by rw [hac, hbd]; rfl) rfl rfl (chunks_len xs j) (by omega) fun fr => ?_
            simp only [roundQ]
            simp
            repeat (first | (refine T_seqk fun K hK => ?_) | (refine T_reg tOK rfl ?_; simp [m3]) | (refine T_ret ?_; try simp) | (refine T_skip ?_; try simp) | (refine T_blockk fun K hK => ?_) | (with_reducible apply_assumption -exfalso -symm) | (rw [afterRF_ret]; simp [m3]) | (refine T_exit ?_; try simp) | (refine T_cond_t ?_ ?_; · (simp; done)) | (refine T_cond_f ?_ ?_; · (simp; done)) | (rintro _ _ (_ | _) hz9 <;> first | (simp; done) | (simp at hz9; done)) | (refine And.intro ?_ ?_) | (simp only [Post.block_ret, Post.block_exit, Post.block_normal, Post.block_pan, Post.seq_ret, Post.seq_exit, Post.seq_normal, Post.seq_pan]; try simp [m3]) | (refine T_draw tOK tmix [([], 0), ([], 1), ([], 2), ([1, 2], 3), ([1, 2, 3], 4), ([0, 1, 2, 3, 4], 5), ([0, 1, 2, 3, 4, 5], 6)] 5 (by decide +kernel) ?_; simp [m3]))
            refine TL_fall (fr' := [(0, .fn (.yield l) [] []), (1, .laddr (u8s xs)), (2, .laddr (i64 4)), (4, i64 ((4 * (j + 1) : Nat) : Int))]) (σ' := [none, none, none, none, none, none, none, none, none, some (.cells 22 0 [.ref 44 (g + 1) 0 (j + 1)]), some (.loop l .ready none 69 [(5, .ptr 9 0 0 [])] #[39] ac bd), none, none, none, none, none, none, none, some (.cells 2 0 [.int .i64 y]), none, none, none, none, none, none, none, none, none, none, none, none, none, none, none, none, none, none, none, none, none, none, none, none, none, some (.cells 2 (g + 1) (is (chunks xs j ++ [(rd4 [a1, a2, a3, a4])])))]) 45 [0, 1, 2, 4] (by simp) (by simp [Fr.keep]; omega) (by simp [belowFr, belowB, belowL_of_pure 45 _ (pureL_u8 xs), belowL]) (by simp) (by simp [belowStore, belowBlk, belowL_of_pure 45 _ (pureL_is _), belowL, belowB]) (ih.down _ _ ⟨rfl, .inr ⟨(g + 1), y, by omega, ?_⟩⟩)
            rw [hch]
end
end Go.Proofs.Ytdplbgfokoajjaa
end
section
/- Manifests: the plain law of the bytes and of the checksum. -/
set_option linter.unusedVariables false
set_option linter.unusedSimpArgs false
set_option maxRecDepth 20000
namespace Go.Proofs.Ytdplbgfokoajjaa
open Go

/-- The table's index, from its highest byte. -/
def crcInv : List Nat := [0, 65, 195, 130, 134, 199, 69, 4, 77, 12, 142, 207, 203, 138, 8, 73, 154, 219, 89, 24, 28, 93, 223, 158, 215, 150, 20, 85, 81, 16, 146, 211, 117, 52, 182, 247, 243, 178, 48, 113, 56, 121, 251, 186, 190, 255, 125, 60, 239, 174, 44, 109, 105, 40, 170, 235, 162, 227, 97, 32, 36, 101, 231, 166, 234, 171, 41, 104, 108, 45, 175, 238, 167, 230, 100, 37, 33, 96, 226, 163, 112, 49, 179, 242, 246, 183, 53, 116, 61, 124, 254, 191, 187, 250, 120, 57, 159, 222, 92, 29, 25, 88, 218, 155, 210, 147, 17, 80, 84, 21, 151, 214, 5, 68, 198, 135, 131, 194, 64, 1, 72, 9, 139, 202, 206, 143, 13, 76, 149, 212, 86, 23, 19, 82, 208, 145, 216, 153, 27, 90, 94, 31, 157, 220, 15, 78, 204, 141, 137, 200, 74, 11, 66, 3, 129, 192, 196, 133, 7, 70, 224, 161, 35, 98, 102, 39, 165, 228, 173, 236, 110, 47, 43, 106, 232, 169, 122, 59, 185, 248, 252, 189, 63, 126, 55, 118, 244, 181, 177, 240, 114, 51, 127, 62, 188, 253, 249, 184, 58, 123, 50, 115, 241, 176, 180, 245, 119, 54, 229, 164, 38, 103, 99, 34, 160, 225, 168, 233, 107, 42, 46, 111, 237, 172, 10, 75, 201, 136, 140, 205, 79, 14, 71, 6, 132, 197, 193, 128, 2, 67, 144, 209, 83, 18, 22, 87, 213, 148, 221, 156, 30, 95, 91, 26, 152, 217]
theorem crcInv_ok : ((List.range 256).all fun i => crcInv.getD (cs8 i / 16777216) 300 == i) = true := by decide +kernel
theorem cs8_hi {i j : Nat} (hi : i < 256) (hj : j < 256) (h : cs8 i / 16777216 = cs8 j / 16777216) : i = j := by
  have a := List.all_eq_true.1 crcInv_ok i (List.mem_range.2 hi)
  have b := List.all_eq_true.1 crcInv_ok j (List.mem_range.2 hj)
  rw [beq_iff_eq] at a b
  rw [← a, ← b, h]
theorem xor_hi {a x : Nat} (ha : a < 16777216) : (a ^^^ x) / 16777216 = x / 16777216 := by
  have := Nat.shiftRight_xor_distrib (a := a) (b := x) (i := 24)
  simp only [Nat.shiftRight_eq_div_pow] at this
  rw [show (2 : Nat) ^ 24 = 16777216 from rfl, Nat.div_eq_of_lt ha, Nat.zero_xor] at this
  exact this
theorem xor_cancel {a b c : Nat} (h : a ^^^ b = a ^^^ c) : b = c := by
  have : a ^^^ (a ^^^ b) = a ^^^ (a ^^^ c) := by rw [h]
  rwa [← Nat.xor_assoc, ← Nat.xor_assoc, Nat.xor_self, Nat.zero_xor, Nat.zero_xor] at this
theorem xor_cancel' {a b c : Nat} (h : b ^^^ a = c ^^^ a) : b = c := xor_cancel (a := a) (by rwa [Nat.xor_comm b, Nat.xor_comm c] at h)
theorem crcStep_inj {r s : Nat} {c d : UInt8} (hr : r < 4294967296) (hs : s < 4294967296) (h : crcStep r c = crcStep s d) : r / 256 = s / 256 ∧ r % 256 ^^^ c.toNat = s % 256 ^^^ d.toNat := by
  unfold crcStep at h
  have hc := c.toNat_lt
  have hd := d.toNat_lt
  have l1 : r % 256 ^^^ c.toNat < 256 := Nat.xor_lt_two_pow (n := 8) (by omega) (by omega)
  have l2 : s % 256 ^^^ d.toNat < 256 := Nat.xor_lt_two_pow (n := 8) (by omega) (by omega)
  have e : r % 256 ^^^ c.toNat = s % 256 ^^^ d.toNat := by
    refine cs8_hi l1 l2 ?_
    exact (xor_hi (a := r / 256) (by omega)).symm.trans ((congrArg (· / 16777216) h).trans (xor_hi (a := s / 256) (by omega)))
  rw [e] at h
  exact ⟨xor_cancel' h, e⟩
theorem crcStep_l {r s : Nat} {c : UInt8} (hr : r < 4294967296) (hs : s < 4294967296) (h : crcStep r c = crcStep s c) : r = s := by
  obtain ⟨h1, h2⟩ := crcStep_inj hr hs h
  have := xor_cancel' h2
  omega
theorem crcStep_r {r : Nat} {c d : UInt8} (hr : r < 4294967296) (h : crcStep r c = crcStep r d) : c = d := UInt8.toNat_inj.1 (xor_cancel (crcStep_inj hr hr h).2)
theorem fold_inj : ∀ (l : List UInt8) {r s : Nat}, r < 4294967296 → s < 4294967296 → l.foldl crcStep r = l.foldl crcStep s → r = s
  | [], r, s, hr, hs, h => h
  | c :: l, r, s, hr, hs, h => crcStep_l hr hs (fold_inj l (crcStep_lt hr c) (crcStep_lt hs c) h)
/-- One byte turned, another checksum. -/
theorem crc_turn {pre post : List UInt8} {x y : UInt8} (h : crc (pre ++ x :: post) = crc (pre ++ y :: post)) : x = y := by
  unfold crc crcM at h
  have h := xor_cancel h
  simp only [List.foldl_append, List.foldl_cons] at h
  have hp : pre.foldl crcStep (4294967295 ^^^ 0) < 4294967296 := fold_lt pre (by decide)
  exact crcStep_r hp (fold_inj post (crcStep_lt hp x) (crcStep_lt hp y) h)
theorem ofNat_of {n : Nat} (h : n < 256) : (UInt8.ofNat n).toNat = n := by simp; omega
theorem rd4_be4 {n : Nat} (h : n < 4294967296) : rd4 (be4 n) = (n : Int) := by
  have e (m : Nat) : (UInt8.ofNat m).toNat = m % 256 := by simp
  unfold be4 rd4
  simp only [e]
  omega
theorem be4_rd4 (a b c d : UInt8) : be4 (rd4 [a, b, c, d]).toNat = [a, b, c, d] := by
  have ha := a.toNat_lt
  have hb := b.toNat_lt
  have hc := c.toNat_lt
  have hd := d.toNat_lt
  have e : (rd4 [a, b, c, d]).toNat = a.toNat * 16777216 + b.toNat * 65536 + c.toNat * 256 + d.toNat := by
    have : rd4 [a, b, c, d] = (a.toNat : Int) * 16777216 + (b.toNat : Int) * 65536 + (c.toNat : Int) * 256 + d.toNat := rfl
    rw [this]; omega
  rw [e]
  unfold be4
  have k (m : Nat) (x : UInt8) (h : m % 256 = x.toNat) : UInt8.ofNat m = x := UInt8.toNat_inj.1 (by simpa using h)
  rw [k _ a (by omega), k _ b (by omega), k _ c (by omega), k _ d (by omega)]
theorem be4_inj {a b : Nat} (ha : a < 4294967296) (hb : b < 4294967296) (h : be4 a = be4 b) : a = b := by
  have := congrArg rd4 h
  rw [rd4_be4 ha, rd4_be4 hb] at this
  omega
theorem mbody_drop {l : List Int} {j : Nat} (h : j < l.length) : ((mbody l).drop (4 * j)).take 4 = be4 (l[j]).toNat := by
  induction l generalizing j with
  | nil => simp at h
  | cons a l ih =>
    have hb : mbody (a :: l) = be4 a.toNat ++ mbody l := by simp [mbody]
    rw [hb]
    cases j with
    | zero => rw [Nat.mul_zero, List.drop_zero]; exact List.take_left' rfl
    | succ j =>
      have : (be4 a.toNat ++ mbody l).drop (4 * (j + 1)) = (mbody l).drop (4 * j) := by
        rw [List.drop_append, show (be4 a.toNat).drop (4 * (j + 1)) = [] from List.drop_eq_nil_of_le (by rw [be4_len]; omega), be4_len, List.nil_append]
        congr 1
      rw [this]
      have h' : j < l.length := by simpa using h
      rw [ih h']; simp
theorem chunks_mbody {l : List Int} (h : l.all inB = true) : chunks (mbody l) l.length = l := by
  refine List.ext_getElem (by simp [chunks]) fun j h1 h2 => ?_
  have hb := List.all_eq_true.1 h l[j] (List.getElem_mem h2)
  unfold inB at hb
  simp only [Bool.and_eq_true, decide_eq_true_eq] at hb
  simp only [chunks, List.getElem_map, List.getElem_range]
  rw [mbody_drop h2, rd4_be4 (by omega)]
  omega
theorem mbody_chunks : ∀ (n : Nat) (xs : List UInt8), xs.length = 4 * n → mbody (chunks xs n) = xs
  | 0, xs, h => by
    have : xs = [] := List.length_eq_zero_iff.1 (by omega)
    subst this; rfl
  | n + 1, xs, h => by
    match xs, h with
    | a :: b :: c :: d :: xs, h =>
      have ih := mbody_chunks n xs (by simp at h; omega)
      have : chunks (a :: b :: c :: d :: xs) (n + 1) = rd4 [a, b, c, d] :: chunks xs n := by
        unfold chunks
        rw [List.range_succ_eq_map, List.map_cons, List.map_map]
        congr 1
      rw [this]
      have e : mbody (rd4 [a, b, c, d] :: chunks xs n) = be4 (rd4 [a, b, c, d]).toNat ++ mbody (chunks xs n) := by simp [mbody]
      rw [e, be4_rd4, ih]; rfl
theorem okL_facts {l : List Int} (h : okL l = true) : 0 < l.length ∧ l.length ≤ 40 ∧ l.all inB = true := by
  unfold okL at h
  simp only [Bool.and_eq_true, decide_eq_true_eq] at h
  exact ⟨h.1.1.1, h.1.1.2, h.1.2⟩
theorem mout_len (l : List Int) : (mout l).length = 1 + 4 * l.length := by simp [mout, mbody_len]; omega
theorem manPut_len {l : List Int} (h : okL l = true) : (manPut l).length = 5 + 4 * l.length := by
  unfold manPut; rw [if_pos h, List.length_append, mout_len, be4_len]; omega
theorem manPut_pos {l : List Int} : (0 < (manPut l).length) = (okL l = true) := by
  cases h : okL l with
  | true => rw [manPut_len h]; simp; omega
  | false => unfold manPut; rw [if_neg (by simp [h])]; simp
theorem mout_head {l : List Int} (h : okL l = true) (t : List UInt8) : (((mout l) ++ t).headD 0).toNat = l.length := by
  have := (okL_facts h).2.1
  show (UInt8.ofNat l.length).toNat = l.length
  exact ofNat_of (by omega)
theorem manGet_put {l : List Int} (h : okL l = true) : manGet (manPut l) = (l, 0) := by
  have hl := manPut_len h
  have ⟨f1, f2, f3⟩ := okL_facts h
  have hp : manPut l = mout l ++ be4 (crc (mout l)) := by unfold manPut; rw [if_pos h]
  have hh := mout_head h (be4 (crc (mout l)))
  unfold manGet
  rw [hl, hp, hh, if_neg (by omega)]
  have hm := mout_len l
  rw [show 5 + 4 * l.length - 4 = (mout l).length by omega, List.take_left' rfl, List.drop_left' rfl, if_neg (by simp)]
  have : (mout l).drop 1 = mbody l := rfl
  rw [this, chunks_mbody f3, if_pos h]
theorem manGet_more {l : List Int} (h : okL l = true) (x : UInt8) : manGet (manPut l ++ [x]) = ([], 12) := by
  have hl := manPut_len h
  have hp : manPut l = mout l ++ be4 (crc (mout l)) := by unfold manPut; rw [if_pos h]
  have hh := mout_head h (be4 (crc (mout l)) ++ [x])
  unfold manGet
  rw [List.length_append, hl, hp, List.append_assoc, hh, if_pos (by simp)]
theorem manGet_none {b : List UInt8} (h : (manGet b).2 ≠ 0) : (manGet b).1 = [] := by
  unfold manGet at h ⊢
  split
  · rfl
  · split
    · rfl
    · split
      · rename_i h1 h2 h3; rw [if_neg h1, if_neg h2, if_pos h3] at h; simp at h
      · rfl
theorem manGet_some {b : List UInt8} (h : (manGet b).2 = 0) : okL (manGet b).1 = true ∧ manPut (manGet b).1 = b := by
  unfold manGet at h ⊢
  split at h
  · simp at h
  · rename_i h1
    split at h
    · simp at h
    · rename_i h2
      split at h
      · rename_i h3
        rw [if_neg h1, if_neg h2, if_pos h3]
        refine ⟨h3, ?_⟩
        simp only
        unfold manPut
        rw [if_pos h3]
        match b, h1, h2, h3 with
        | [], h1, _, _ => simp at h1
        | n :: t, h1, h2, h3 =>
          have hl : t.length = 4 + 4 * n.toNat := by simp at h1; omega
          have hx : ((n :: t).take ((n :: t).length - 4)).drop 1 = t.take (4 * n.toNat) := by
            rw [show (n :: t).length - 4 = 4 * n.toNat + 1 by simp; omega, List.take_succ_cons]; rfl
          have hm : mout (chunks (((n :: t).take ((n :: t).length - 4)).drop 1) n.toNat) = (n :: t).take ((n :: t).length - 4) := by
            unfold mout
            rw [hx, mbody_chunks _ _ (by simp; omega), chunks_len]
            rw [show (n :: t).length - 4 = 4 * n.toNat + 1 by simp; omega, List.take_succ_cons]
            congr 1
            exact UInt8.toNat_inj.1 (by simp)
          have hm' : mout (chunks (((n :: t).take ((n :: t).length - 4)).drop 1) ((n :: t).headD 0).toNat) = (n :: t).take ((n :: t).length - 4) := hm
          rw [hm']
          have h2 : be4 (crc ((n :: t).take ((n :: t).length - 4))) = (n :: t).drop ((n :: t).length - 4) := Decidable.not_not.1 h2
          rw [h2, List.take_append_drop]
      · simp at h
/-- One byte turned is none. -/
theorem manGet_turn {l : List Int} (h : okL l = true) {k : Nat} (hk : k < (manPut l).length) {v : UInt8} (hv : v ≠ (manPut l)[k]) : (manGet ((manPut l).set k v)).2 ≠ 0 := by
  have hl := manPut_len h
  have hp : manPut l = mout l ++ be4 (crc (mout l)) := by unfold manPut; rw [if_pos h]
  have hm := mout_len l
  have hm4 : 5 + 4 * l.length - 4 = (mout l).length := by omega
  unfold manGet
  rw [List.length_set, hl]
  by_cases h0 : k = 0
  · subst h0
    have : ((manPut l).set 0 v).headD 0 = v := by
      cases hq : manPut l with
      | nil => rw [hq] at hl; simp at hl; omega
      | cons a t => rfl
    rw [this, if_pos]
    · simp
    · refine .inr fun e => hv (UInt8.toNat_inj.1 ?_)
      have hh := mout_head h (be4 (crc (mout l)))
      rw [← hp] at hh
      have : ∀ (xs : List UInt8) (hx : 0 < xs.length), xs[0] = xs.headD 0 := fun xs hx => by cases xs with
        | nil => simp at hx
        | cons a t => rfl
      rw [this _ hk, hh]; omega
  · have hh : (((manPut l).set k v).headD 0).toNat = l.length := by
      have hh := mout_head h (be4 (crc (mout l)))
      rw [← hp] at hh
      rw [← hh]
      cases hq : manPut l with
      | nil => rfl
      | cons a t =>
        cases k with
        | zero => exact absurd rfl h0
        | succ k => rfl
    rw [hh, if_neg (by omega), hm4]
    have key : be4 (crc (((manPut l).set k v).take (mout l).length)) ≠ ((manPut l).set k v).drop (mout l).length := by
      by_cases hk' : k < (mout l).length
      · have e : (manPut l).set k v = (mout l).set k v ++ be4 (crc (mout l)) := by rw [hp, List.set_append_left _ _ hk']
        have hvk : (manPut l)[k] = (mout l)[k] := by simp only [hp]; rw [List.getElem_append_left hk']
        rw [e, List.take_left' (by simp), List.drop_left' (by simp)]
        intro hc
        have hc := be4_inj (crc_lt _) (crc_lt _) hc
        have s1 : (mout l).set k v = (mout l).take k ++ v :: (mout l).drop (k + 1) := List.set_eq_take_append_cons_drop.trans (if_pos hk')
        have s2 : mout l = (mout l).take k ++ (mout l)[k] :: (mout l).drop (k + 1) := by
          rw [← List.drop_eq_getElem_cons hk', List.take_append_drop]
        rw [s1] at hc
        have hc := hc.trans (congrArg crc s2)
        exact hv ((crc_turn hc).trans hvk.symm)
      · have hk' : (mout l).length ≤ k := by omega
        have e : (manPut l).set k v = mout l ++ (be4 (crc (mout l))).set (k - (mout l).length) v := by rw [hp, List.set_append_right _ _ hk']
        rw [e, List.take_left' rfl, List.drop_left' rfl]
        intro hc
        have hlt : k - (mout l).length < (be4 (crc (mout l))).length := by rw [be4_len]; omega
        have hvk : (manPut l)[k] = (be4 (crc (mout l)))[k - (mout l).length] := by simp only [hp]; rw [List.getElem_append_right hk']
        have : (be4 (crc (mout l)))[k - (mout l).length] = v := by
          have h3 : (be4 (crc (mout l)))[k - (mout l).length]? = some v := by rw [hc, List.getElem?_set_self hlt]
          rw [List.getElem?_eq_getElem hlt] at h3; simpa using h3
        exact hv (this.symm.trans hvk.symm)
    rw [if_pos key]; simp
end Go.Proofs.Ytdplbgfokoajjaa
end
section
/- The checksum bit by bit, and by a table. -/
set_option linter.unusedVariables false
set_option linter.unusedSimpArgs false
set_option maxRecDepth 20000
namespace Go.Proofs.Ytdplbgfokoajjaa
open Go

theorem xor_half (x y : Nat) : (x ^^^ y) / 2 = x / 2 ^^^ y / 2 := by
  have := Nat.shiftRight_xor_distrib (a := x) (b := y) (i := 1)
  simpa [Nat.shiftRight_eq_div_pow] using this
theorem cs_xor (x y : Nat) : cs (x ^^^ y) = cs x ^^^ cs y := by
  unfold cs
  rw [xor_half]
  have h : ((x ^^^ y) % 2 = 1) ↔ ¬ (x % 2 = 1 ↔ y % 2 = 1) := Nat.xor_mod_two_eq_one
  have e : (if (x ^^^ y) % 2 = 1 then 3988292384 else 0) = (if x % 2 = 1 then 3988292384 else 0) ^^^ (if y % 2 = 1 then 3988292384 else (0 : Nat)) := by
    by_cases hx : x % 2 = 1 <;> by_cases hy : y % 2 = 1 <;> simp [h, hx, hy]
  rw [e]
  simp only [Nat.xor_assoc]
  congr 1
  rw [← Nat.xor_assoc, Nat.xor_comm (y / 2), Nat.xor_assoc]
theorem csN_xor : ∀ (k x y : Nat), csN k (x ^^^ y) = csN k x ^^^ csN k y
  | 0, x, y => rfl
  | k + 1, x, y => by
    show cs (csN k (x ^^^ y)) = cs (csN k x) ^^^ cs (csN k y)
    rw [csN_xor k, cs_xor]
theorem cs_even (m : Nat) : cs (2 * m) = m := by
  unfold cs
  rw [if_neg (by omega), Nat.xor_zero]
  omega
theorem csN_shift : ∀ (k x m : Nat), csN k (2 ^ (k + m) * x) = 2 ^ m * x
  | 0, x, m => by simp [csN]
  | k + 1, x, m => by
    show cs (csN k (2 ^ (k + 1 + m) * x)) = _
    rw [show k + 1 + m = k + (m + 1) by omega, csN_shift k x (m + 1), Nat.pow_succ, Nat.mul_comm (2 ^ m) 2, Nat.mul_assoc, cs_even]
theorem split_byte (r : Nat) : r = (2 ^ 8 * (r / 2 ^ 8)) ^^^ (r % 2 ^ 8) := by
  refine Nat.eq_of_testBit_eq fun i => ?_
  rw [Nat.testBit_xor, Nat.testBit_two_pow_mul, Nat.testBit_mod_two_pow]
  by_cases h : i < 8
  · simp [h, show ¬ 8 ≤ i by omega]
  · have h8 : 8 ≤ i := by omega
    simp only [h8, decide_true, Bool.true_and, h, decide_false, Bool.false_and, Bool.xor_false]
    rw [Nat.testBit_div_two_pow]
    congr 1; omega
theorem csN8 (r : Nat) (c : UInt8) : csN 8 (r ^^^ c.toNat) = crcStep r c := by
  have hc := c.toNat_lt
  unfold crcStep cs8
  rw [split_byte (r ^^^ c.toNat), csN_xor]
  have h1 := csN_shift 8 ((r ^^^ c.toNat) / 2 ^ 8) 0
  rw [show 8 + 0 = 8 from rfl, Nat.pow_zero, Nat.one_mul] at h1
  rw [h1]
  have d : (r ^^^ c.toNat) / 2 ^ 8 = r / 256 := by
    have := Nat.shiftRight_xor_distrib (a := r) (b := c.toNat) (i := 8)
    simp only [Nat.shiftRight_eq_div_pow] at this
    rw [this, Nat.div_eq_of_lt (show c.toNat < 2 ^ 8 by omega), Nat.xor_zero]
  have m : (r ^^^ c.toNat) % 2 ^ 8 = r % 256 ^^^ c.toNat := by
    rw [Nat.xor_mod_two_pow, Nat.mod_eq_of_lt (show c.toNat < 2 ^ 8 by omega)]
  rw [d, m]
end Go.Proofs.Ytdplbgfokoajjaa
end
section
/- Package disk: Used. -/
set_option linter.unusedVariables false
set_option linter.unusedSimpArgs false
set_option maxRecDepth 4000
namespace Go.Proofs.Ytdplbgfokoajjaa
open Go
attribute [local simp] RF_nil RF_cons afterRF_ret nilCmp sop sGuard isCall sCallee Fr.eval Fr.get Fr.put ofConst sLoad sStore sBuiltin Fr.args bodyQ sRes oneOf sBin sInt sUn
attribute [local simp] RD_nil RD_cons noConf clear accAdd Tab.pr Tab.slot foot wid idOf refId Op.operands Call.operands sFieldAddr sNilCheck sLookup keyLit sMapSet sMapDel sLen Store.at Store.new getP setP typeAt fits evalParts sBuildSlice sFill sList sApp sAppend frzRe frz pureB pureL
attribute [local simp] dkB dkS u8s

def tot (fs : List (List UInt8 × Fl)) (g : List UInt8 → Bool) : Nat := ((fs.filter fun p => g p.1).map fun p => p.2.b.length).sum
/-- How many bytes there are. -/
def used (fs : List (List UInt8 × Fl)) : Nat := (fs.map fun p => p.2.b.length).sum
theorem tot_cons (p : List UInt8 × Fl) (fs : List (List UInt8 × Fl)) (g : List UInt8 → Bool) : tot (p :: fs) g = (if g p.1 then p.2.b.length else 0) + tot fs g := by
  unfold tot
  simp only [List.filter_cons]
  split <;> simp
theorem tot_le (g : List UInt8 → Bool) : ∀ fs, tot fs g ≤ used fs
  | [] => by simp [tot, used]
  | p :: fs => by
    have := tot_le g fs
    rw [tot_cons]
    simp only [used, List.map_cons, List.sum_cons] at this ⊢
    split <;> omega
theorem tot_all {g : List UInt8 → Bool} (h : ∀ n, g n = true) (fs : List (List UInt8 × Fl)) : tot fs g = used fs := by
  unfold tot used
  rw [List.filter_eq_self.2 fun p _ => h p.1]
theorem tot_none {g : List UInt8 → Bool} (fs : List (List UInt8 × Fl)) (h : ∀ p ∈ fs, g p.1 = false) : tot fs g = 0 := by
  unfold tot
  rw [List.filter_eq_nil_iff.2 fun p hp => by simp [h p hp]]; rfl
theorem tot_congr {g g' : List UInt8 → Bool} : ∀ fs : List (List UInt8 × Fl), (∀ p ∈ fs, g p.1 = g' p.1) → tot fs g = tot fs g'
  | [], _ => rfl
  | p :: fs, h => by rw [tot_cons, tot_cons, h p (by simp), tot_congr fs fun q hq => h q (by simp [hq])]
theorem tot_one {n : List UInt8} {f : Fl} {g : List UInt8 → Bool} (hg : g n = false) : ∀ fs : List (List UInt8 × Fl), fs.Pairwise (fun p q => p.1 ≠ q.1) → dget n fs = some f → tot fs (fun m => g m || m == n) = tot fs g + f.b.length
  | [], _, h => by simp [dget] at h
  | p :: fs, hp, h => by
    obtain ⟨h1, h2⟩ := List.pairwise_cons.1 hp
    rw [tot_cons, tot_cons]
    by_cases e : p.1 = n
    · have hf : p.2 = f := by simpa [dget, e] using h
      subst e; subst hf
      have := tot_congr (g := fun m => g m || m == p.1) (g' := g) fs fun q hq => by
        have := h1 q hq
        simp [Ne.symm this]
      rw [this]
      simp [hg]; omega
    · have hd : dget n fs = some f := by simpa [dget, List.find?_cons, e] using h
      have := tot_one hg fs h2 hd
      rw [this]
      simp [e]; omega

structure UsedSt (cx1 : Cx) (r b n : Nat) (ds : List (Lit × DataW Value)) (fs : List (List UInt8 × Fl)) (dl : List Deferred) (left : Lit → Bool) (cnt : Nat) (a : Act) (w : World) : Prop where
  sz : a.tmps.size = 21
  it : a.tmps[10]? = some (.pointer (some ⟨r, 0, none⟩))
  acc : a.tmps[3]? = some (.int .i64 (tot fs fun n => !left (.string n)))
  dl : a.defers = dl
  rg : w.ranges tE.P 9 asHeld b r n (.map ds) left cnt
  bl : RowKit.Below cx1.w.heap.size cx1.w w
  nw : cx1.w.heap.size ≤ r

theorem getD_of {a : Array Value} {t : Nat} {v : Value} (h : a[t]? = some v) : a.getD t undef = v := by simp [Array.getD_eq_getD_getElem?, h]
section
variable {R : Re → Store → Prop} {d : Dk}
set_option maxHeartbeats 1000000 in
theorem C_used (hl : used d.files < 1000000000) (h : R (.ret (i64 (used d.files))) (dkS d)) : C tE 24 [.ptr 0 0 0 []] (dkS d) R := by
  refine C_bodyk tOK Try.func24 rfl (Nat.le_of_ble_eq_true rfl) fun K hK => ?_; simp
  refine T_seqk fun K1 hK1 => ?_
  refine T_reg tOK rfl ?_
  simp
  apply hK1
  refine T_seqk fun K2 hK2 => ?_
  refine T_reg tOK rfl ?_
  simp
  apply hK2
  refine T_seqk fun K3 hK3 => ?_
  have hfin : ∀ fr, Fr.get fr 3 = some (i64 (used d.files)) → K3 fr (dkS d) := fun fr hfr => by
    apply hK3
    repeat (first | (refine T_seqk fun K hK => ?_) | (refine T_reg tOK rfl ?_; simp [hfr]) | (refine T_ret ?_; try simp) | (refine T_skip ?_; try simp) | (refine T_blockk fun K hK => ?_) | (with_reducible apply_assumption -exfalso -symm) | (rw [afterRF_ret]; simp [hfr]) | (refine T_exit ?_; try simp) | (refine T_cond_t ?_ ?_; · (simp; done)) | (refine T_cond_f ?_ ?_; · (simp; done)) | (rintro _ _ (_ | _) hz9 <;> first | (simp; done) | (simp at hz9; done)) | (refine And.intro ?_ ?_) | (simp only [Post.block_ret, Post.block_exit, Post.block_normal, Post.block_pan, Post.seq_ret, Post.seq_exit, Post.seq_normal, Post.seq_pan]; try simp [hfr]) | (refine T_loop (TL_round ?_)) | (refine TL_round ?_))
  clear hK3 h
  intro cx a ht hn hf
  refine wr_seq ?_
  refine wr_region_list ?_
  refine wpl_split (K := fun fr' σ' => σ' = dkS d ∧ Fr.get fr' 9 = some (.map 1) ∧ Fr.get fr' 3 = some (i64 0)) tOK 4 _ rfl ht hn hf (by simp) ?_
  rintro fr' σ' cx1 a1 ⟨rfl, h9, h3⟩ hn1 hf1 hd1 hs1
  show wpl _ _ _ [_] _ _
  obtain ⟨m, ds, k1, k2, k3, k4, hown, hml⟩ := hn1.mp (b := 1) rfl (hf1.2 9 _ h9).2
  have hstr : tE.P.underlying 9 = some .string := tOK.td 9 rfl
  have hkd := Maps.string_keyed hstr
  have hund : tE.P.underlying 72 = some (.map 9 79) := (tOK.td 72 rfl).1
  refine wpl_range_own rfl (.tmp 9) 72 rfl 9 79 hkd hund asHeld m.blk ds.length (.map ds) k4 hown ?_
  intro w1 hrg hg hsz
  refine wpl_nil ?_
  show wpr _ (Code.block 0 _) _ _ _
  refine wr_block (HeadR.loop ?_)
  have hpw : (d.files : List (List UInt8 × Fl)).Pairwise (fun p q => p.1 ≠ q.1) := by
    obtain ⟨es, h1, h2, _⟩ := hown.entries hkd
    cases h1
    have hk := hml.keys
    have : (ds.map (·.1)).Pairwise (· ≠ ·) := List.pairwise_map.2 h2
    rw [hk] at this
    have := List.pairwise_map.1 (List.pairwise_map.1 this)
    exact this.imp fun h e => h (by simp [e])
  have hsz1 : a1.tmps.size = 21 := hf1.1
  have init : UsedSt cx1 cx1.w.heap.size m.blk ds.length ds d.files a1.defers (Maps.has (.map ds)) (Maps.size (.map ds)) (a1.put (some 10) (.pointer (some ⟨cx1.w.heap.size, 0, none⟩))) w1 := by
    refine ⟨by simp [Act.put, hsz1], by simp [Act.put, hsz1], ?_, rfl, hrg, ⟨hg.os, hg.tape, hg.output, hg.size, fun k hk => hg.block k hk (by simp)⟩, Nat.le_refl _⟩
    have h0 : tot d.files (fun n => !Maps.has (.map ds) (.string n)) = 0 := tot_none _ fun p hp => by
      rcases hml.get (.string p.1) with ⟨_, _, _, _, g3, _⟩ | ⟨g1, _, _⟩
      · simp [g3]
      · rw [mget_enc] at g1
        simp only [Option.map_eq_none_iff, dget, List.find?_eq_none] at g1
        have := g1 p hp
        simp at this
    rw [h0]
    have := (hf1.2 3 _ h3).2.int_inv
    have h3' : a1.tmps[3]? = some (.int .i64 0) := by
      rw [Array.getElem?_eq_getElem (by omega)]
      rw [← this, Array.getD_eq_getD_getElem?, Array.getElem?_eq_getElem (by omega)]; rfl
    simp [Act.put, h3']
  refine (?key : ∀ cnt left a2 w2, UsedSt cx1 cx1.w.heap.size m.blk ds.length ds d.files a1.defers left cnt a2 w2 → HeadR _ _ _ a2 w2) _ _ _ _ init
  intro cnt
  induction cnt using Nat.strongRecOn with
  | ind cnt ih =>
  intro left a2 w2 st
  refine HeadR.round (wr_seq (wr_region_list ?_))
  have hit : a2.eval (.tmp 10) = .pointer (some ⟨cx1.w.heap.size, 0, none⟩) := getD_of st.it
  refine wpl_next_ranges (α := Value) (β := Value) rfl (.tmp 10) rfl 9 hkd asHeld id id (fun key kl _ => ⟨key, rfl⟩) (fun v y _ => ⟨v, rfl⟩) m.blk cx1.w.heap.size ds.length (.map ds) left cnt hit st.rg ?_ ?_
  · intro h0 hleft
    refine wpl_value rfl (val := .bool false) (w' := w2) (by simp [execOp, Act.eval, Act.put, st.sz, Result.andThen, Instr.extract]) (wpl_nil ?_)
    simp only [Act.put, id_eq]
    show wpr _ _ _ _ _
    refine wr_seq (wr_cond_false (by simp [Act.eval, st.sz]) (wr_exit ?_))
    simp only [Exit.then, Exit.inBlock, if_true]
    have hacc : tot d.files (fun n => !left (.string n)) = used d.files := tot_all (fun n => by simp [hleft]) _
    have ha := st.acc
    rw [hacc] at ha
    refine ⟨.normal, [(3, i64 (used d.files))], dkS d, cx1.grown w2, rfl, hfin _ rfl, trivial, (hn1.grown st.bl).1, ⟨by simp [st.sz], fun t x ht => ?_⟩, st.dl.trans hd1, hs1.transB ((hn1.grown st.bl).2.ofBelow (hs1.topB ▸ ht))⟩
    simp only [Fr.get] at ht
    split at ht
    · rename_i e; subst e
      simp only [Option.some.injEq] at ht; subst ht
      refine ⟨by omega, ?_⟩
      have : ((a2.tmps.setIfInBounds 11 (.tuple #[.bool false])).setIfInBounds 12 (.bool false)).getD 3 undef = .int .i64 (used d.files) := getD_of (by simp [ha])
      rw [this]
      exact V_one (.int _ _) (by simp)
    · simp at ht
  · intro key v kl y w3 cnt' hkey hlk hR hat hrg3 hlt hg3 hsz3 hen
    simp only [id] at hkey hR hen
    obtain ⟨x, g1, g2⟩ : ∃ x, mget kl (encFs d.files) = some x ∧ V tE cx1 x v := by
      simp only [asHeld, Option.some.injEq] at hR; subst hR
      rcases hml.get kl with ⟨x, v', g1, g2, g3, g4⟩ | ⟨g1, g3, g4⟩
      · have := (hat .nil).symm.trans (g4 .nil)
        simp only [DataW.held.injEq] at this; subst this
        exact ⟨x, g1, g2⟩
      · have := (hat .nil).symm.trans (g4 .nil)
        simp at this
    obtain ⟨n, rfl⟩ : ∃ n, kl = .string n := by
      unfold mget at g1
      simp only [Option.map_eq_some_iff] at g1
      obtain ⟨p, hp, _⟩ := g1
      have h1 := List.find?_some hp
      have h2 := List.mem_of_find?_eq_some hp
      obtain ⟨q, _, rfl⟩ := List.mem_map.1 h2
      cases kl <;> simp [Lit.sameKey] at h1 ⊢
    rw [mget_enc] at g1
    simp only [Option.map_eq_some_iff] at g1
    obtain ⟨f, hg, rfl⟩ := g1
    have hstep : tot d.files (fun m => !(left (.string m) && !(Lit.string m).sameKey (.string n))) = tot d.files (fun n => !left (.string n)) + f.b.length := by
      rw [← tot_one (g := fun m => !left (.string m)) (by simp [hlk]) d.files hpw hg]
      congr 1
      funext m
      simp [Lit.sameKey]
    have hle := tot_le (fun m => !(left (.string m) && !(Lit.string m).sameKey (.string n))) d.files
    have hb3 : RowKit.Below cx1.w.heap.size w2 w3 := ⟨hg3.os, hg3.tape, hg3.output, hg3.size, fun k hk => hg3.block k (Nat.lt_of_lt_of_le hk st.bl.size) (by simp; omega)⟩
    have hb13 := st.bl.trans hb3
    have hV : V tE (cx1.bare w3) (.tup [.undef, encF f]) (.tuple #[key, v]) :=
      VL.tup (us := #[key, v]) (VL.two (V_undef _) (g2.bare (by simp [encF]) fun k hk => hb13.block k (hn1.immI k hk))) .nil
    have hN3 : Now tE (cx1.bare w3) [] := Now.bare fun k hk => Nat.lt_of_lt_of_le (hn1.immI k hk) hb13.size
    refine wpl_value rfl (val := .bool true) (w' := w3) (by simp [execOp, Act.eval, Act.put, st.sz, Result.andThen, Instr.extract]) (wpl_nil ?_)
    simp only [Act.put, id_eq]
    show wpr _ _ _ _ _
    refine wr_seq (wr_cond_true (by simp [Act.eval, st.sz]) (wr_skip ?_))
    show wpr _ _ _ _ _
    refine wr_block (wr_seq (wr_region_list ?_))
    have hit3 : ((a2.tmps.setIfInBounds 11 (.tuple #[.bool true, key, v])).setIfInBounds 12 (.bool true)).getD 10 undef = .pointer (some ⟨cx1.w.heap.size, 0, none⟩) := getD_of (by simp [st.it])
    refine wpl_value rfl (val := .tuple #[key, v]) (w' := w3) (by simp only [execOp, Act.eval, hit3, hen, Sem.run_bind, Result.andThen_ok, Sem.run_pure]) ?_
    simp only [Act.put, id_eq]
    have hacc := st.acc
    generalize hA : (((a2.tmps.setIfInBounds 11 (.tuple #[.bool true, key, v])).setIfInBounds 12 (.bool true)).setIfInBounds 13 (.tuple #[key, v])) = tm
    have e10 : tm[10]? = some (.pointer (some ⟨cx1.w.heap.size, 0, none⟩)) := by rw [← hA]; simp [st.it]
    have e3 : tm[3]? = some (.int .i64 (tot d.files fun n => !left (.string n))) := by rw [← hA]; simp [hacc]
    have e13 : tm[13]? = some (.tuple #[key, v]) := by rw [← hA]; simp [st.sz]
    have esz : tm.size = 21 := by rw [← hA]; simp [st.sz]
    have hf3 : FR tE (cx1.bare w3) 21 [(13, .tup [.undef, encF f]), (3, i64 (tot d.files fun n => !left (.string n)))] tm := by
      refine ⟨esz, fun t x ht => ?_⟩
      simp only [Fr.get] at ht
      split at ht
      · rename_i e; subst e
        simp only [Option.some.injEq] at ht; subst ht
        exact ⟨by omega, by rw [getD_of e13]; exact hV⟩
      · split at ht
        · rename_i e; subst e
          simp only [Option.some.injEq] at ht; subst ht
          exact ⟨by omega, by rw [getD_of e3]; exact V_one (.int _ _) (by simp)⟩
        · simp at ht
    refine wpl_keeping (cx := cx1.bare w3) (z := 0) (K := fun fr' σ' => Fr.get fr' 5 = some (.ptr 0 0 0 []) ∧ Fr.get fr' 3 = some (i64 (tot d.files fun n => !left (.string n))) ∧ σ' = [some (.cells 79 0 [encF f])]) tOK 10 _ rfl (Nat.le_refl _) hN3 hf3 (by simp [encF]) ?_
    rintro fr4 σ4 cx4 a4 ⟨h5, h3', rfl⟩ hn4 hf4 hd4 hs4 ht4
    show wpr _ _ _ _ _
    refine wr_region_list ?_
    have hlen : (u8l f.b).length = f.b.length := by simp [u8l]
    refine wpl_keeping (z := 1) (K := fun fr' σ' => Fr.get fr' 3 = some (i64 (tot d.files fun m => !(left (.string m) && !(Lit.string m).sameKey (.string n))))) tOK 10 _ rfl (by rw [hs4.top]; exact Nat.zero_le _) hn4 hf4 (by
      rw [hstep]
      simp [h5, h3', encF, hlen]
      have hs4' := hstep; exact IntWalk.i64_in _ (by omega)) ?_
    rintro fr5 σ5 cx5 a5 h3'' hn5 hf5 hd5 hs5 ht5
    show HeadR _ _ _ _ _
    have hk45 : ∀ k, k < w3.heap.size → cx5.w.heap[k]? = w3.heap[k]? := fun k hk => (hs5.keeps k (hs4.F k hk)).trans (hs4.keeps k hk)
    have hsz45 : w3.heap.size ≤ cx5.w.heap.size := Nat.le_trans hs4.size hs5.size
    refine ih cnt' hlt (fun x => left x && !x.sameKey (.string n)) a5 cx5.w ⟨hf5.1, ht5.trans (ht4.trans e10), ?_, hd5.trans (hd4.trans st.dl), ?_, hb13.trans ⟨hs5.os.trans hs4.os, hs5.tape.trans hs4.tape, hs5.output.trans hs4.output, hsz45, fun k hk => hk45 k (Nat.lt_of_lt_of_le hk hb13.size)⟩, Nat.le_refl _⟩
    · have := (hf5.2 3 _ h3'').2.int_inv
      rw [Array.getElem?_eq_getElem (by rw [hf5.1]; omega)]
      rw [← this, Array.getD_eq_getD_getElem?, Array.getElem?_eq_getElem (by rw [hf5.1]; omega)]; rfl
    · exact hrg3.kept (row := none) ⟨hs5.os.trans hs4.os, hs5.tape.trans hs4.tape, hs5.output.trans hs4.output, hsz45, fun k hk _ => hk45 k hk⟩ (by simp) (by simp)
end
end Go.Proofs.Ytdplbgfokoajjaa
end
section
/- Package slices: Concat of two rows of bytes. -/
set_option linter.unusedVariables false
set_option linter.unusedSimpArgs false
set_option maxRecDepth 4000
namespace Go.Proofs.Ytdplbgfokoajjaa
open Go
attribute [local simp] RF_nil RF_cons afterRF_ret nilCmp sop sGuard isCall sCallee Fr.eval Fr.get Fr.put ofConst sLoad sStore sBuiltin Fr.args bodyQ sRes oneOf sBin sInt sUn
attribute [local simp] RD_nil RD_cons noConf clear accAdd Tab.pr Tab.slot foot wid idOf refId Op.operands Call.operands sFieldAddr sNilCheck sLookup keyLit sMapSet sMapDel sLen Store.at Store.new getP setP typeAt fits evalParts sBuildSlice sFill sList sApp sAppend frzRe frz pureB pureL
attribute [local simp] dkB dkS u8s optEval sSlice

section
variable {R : Re → Store → Prop} {σ : Store} {a b : List UInt8} {i : Nat}
theorem C_grow {n : Nat} {m : Int} (hn : n + 1 < 100000000) (hm : m = (n : Int) + 1)
    (h : R (.ret (.ref σ.length 0 0 0)) (σ ++ [some (.cells 5 0 (.int .u8 0 :: List.replicate n (.int .u8 0)))])) : C tE 90 [.nils, i64 m] σ R := by
  have k0 : IntKind.i64.wrap 0 = 0 := by decide
  have hw : IntKind.i64.wrap m = m := IntWalk.i64_in _ (by omega)
  have hn0 : decide (m < 0) = false := by rw [decide_eq_false_iff_not]; omega
  have hp : decide (0 < m) = true := by rw [decide_eq_true_eq]; omega
  have q0 : (0 : Int) ≤ m := by omega
  have q1 : m < 1073741824 := by omega
  have hc : m.toNat = n + 1 := by omega
  have q5 : 2 * (n + 1) ≤ 281474976709656 := by omega
  clear hm hn
  refine C_bodyk tOK Try.func90 rfl (Nat.le_of_ble_eq_true rfl) fun K hK => ?_; simp
  repeat (first | (refine T_seqk fun K hK => ?_) | (refine T_reg tOK rfl ?_; simp [k0,hw,hn0,hp,hc,List.replicate_succ,q5,q0,q1]) | (refine T_ret ?_; try simp) | (refine T_skip ?_; try simp) | (refine T_blockk fun K hK => ?_) | (with_reducible apply_assumption -exfalso -symm) | (rw [afterRF_ret]; simp [k0,hw,hn0,hp,hc,List.replicate_succ,q5,q0,q1]) | (refine T_exit ?_; try simp) | (refine T_cond_t ?_ ?_; · (simp; done)) | (refine T_cond_f ?_ ?_; · (simp; done)) | (rintro _ _ (_ | _) hz9 <;> first | (simp; done) | (simp at hz9; done)) | (refine And.intro ?_ ?_) | (simp only [Post.block_ret, Post.block_exit, Post.block_normal, Post.block_pan, Post.seq_ret, Post.seq_exit, Post.seq_normal, Post.seq_pan]; try simp [k0,hw,hn0,hp,hc,List.replicate_succ,q5,q0,q1]) | (refine T_loop (TL_round ?_)) | (refine TL_round ?_))
theorem C_concat_own (x : PV) (hx : x = u8s a ∨ (x = .nils ∧ a = [])) (hl : a.length + b.length < 100000000)
    (h : ∀ σ', σ'.take 1 = [some (.cells 23 0 [x, u8s b])] → ∀ y, frz (hide 1 σ') 6 y = some (u8s (a ++ b)) → R (.ret y) σ') :
    C tE 73 [.ref 0 0 0 2] [some (.cells 23 0 [x, u8s b])] R := by
  have hw : IntKind.i64.wrap ((a.length : Int) + b.length) = (a.length : Int) + b.length := IntWalk.i64_in _ (by omega)
  have hw0 : IntKind.i64.wrap (a.length : Int) = a.length := IntWalk.i64_in _ (by omega)
  have hn0 : decide ((a.length : Int) < 0) = false := by simp
  have hn1 : decide ((a.length : Int) + b.length < 0) = false := by simp; omega
  have k1 : IntKind.i64.wrap 1 = 1 := by decide
  have k2 : IntKind.i64.wrap 2 = 2 := by decide
  have k0 : IntKind.i64.wrap 0 = 0 := by decide
  unfold u8s u8l at h
  unfold u8s u8l
  unfold u8s u8l at hx
  rcases hx with rfl | ⟨rfl, rfl⟩
  · cases hp : decide (0 < (a.length : Int) + b.length) with
    | true =>
      obtain ⟨t, ht⟩ : ∃ t, a.length + b.length = t + 1 := ⟨a.length + b.length - 1, by simp at hp; omega⟩
      have q2 : 2 * (a.length + b.length) ≤ 281474976709656 := by omega
      have q3 : 2 * a.length ≤ 281474976709656 := by omega
      have g1 : t + 1 < 100000000 := by omega
      have g2 : (a.length : Int) + b.length = (t : Int) + 1 := by omega
      clear ht hl
      refine C_bodyk tOK Try.func73 rfl (Nat.le_of_ble_eq_true rfl) fun K hK => ?_; simp
      repeat (first | (refine T_seqk fun K hK => ?_) | (refine T_reg tOK rfl ?_; simp [k0,k1,k2,hw,hw0,hn0,hn1,hp]) | (refine T_ret ?_; try simp) | (refine T_skip ?_; try simp) | (refine T_blockk fun K hK => ?_) | (with_reducible apply_assumption -exfalso -symm) | (rw [afterRF_ret]; simp [k0,k1,k2,hw,hw0,hn0,hn1,hp]) | (refine T_exit ?_; try simp) | (refine T_cond_t ?_ ?_; · (simp; done)) | (refine T_cond_f ?_ ?_; · (simp; done)) | (rintro _ _ (_ | _) hz9 <;> first | (simp; done) | (simp at hz9; done)) | (refine And.intro ?_ ?_) | (simp only [Post.block_ret, Post.block_exit, Post.block_normal, Post.block_pan, Post.seq_ret, Post.seq_exit, Post.seq_normal, Post.seq_pan]; try simp [k0,k1,k2,hw,hw0,hn0,hn1,hp]) | (refine T_loop (TL_round ?_)) | (refine TL_round ?_))
      refine C_grow (n := t) g1 g2 ?_
      repeat (first | (refine T_seqk fun K hK => ?_) | (refine T_reg tOK rfl ?_; simp [k0,k1,k2,hw,hw0,hn0,hn1,hp,q2,q3]) | (refine T_ret ?_; try simp) | (refine T_skip ?_; try simp) | (refine T_blockk fun K hK => ?_) | (with_reducible apply_assumption -exfalso -symm) | (rw [afterRF_ret]; simp [k0,k1,k2,hw,hw0,hn0,hn1,hp,q2,q3]) | (refine T_exit ?_; try simp) | (refine T_cond_t ?_ ?_; · (simp; done)) | (refine T_cond_f ?_ ?_; · (simp; done)) | (rintro _ _ (_ | _) hz9 <;> first | (simp; done) | (simp at hz9; done)) | (refine And.intro ?_ ?_) | (simp only [Post.block_ret, Post.block_exit, Post.block_normal, Post.block_pan, Post.seq_ret, Post.seq_exit, Post.seq_normal, Post.seq_pan]; try simp [k0,k1,k2,hw,hw0,hn0,hn1,hp,q2,q3]) | (refine T_loop (TL_round ?_)) | (refine TL_round ?_))
      rw [List.take_of_length_le (by simp), ← List.map_append]
      rw [frz_row (xs := u8l (a ++ b)) rfl (by simp [u8l]) (frz_u8l _ _)]
      rw [List.drop_zero, List.take_of_length_le (by simp [u8l])]; rfl
    | false =>
      have ea : a = [] := List.length_eq_zero_iff.1 (by simp at hp; omega)
      have eb : b = [] := List.length_eq_zero_iff.1 (by simp at hp; omega)
      subst ea; subst eb
      refine C_bodyk tOK Try.func73 rfl (Nat.le_of_ble_eq_true rfl) fun K hK => ?_; simp
      repeat (first | (refine T_seqk fun K hK => ?_) | (refine T_reg tOK rfl ?_; simp [k0,k1,k2,u8l]) | (refine T_ret ?_; try simp) | (refine T_skip ?_; try simp) | (refine T_blockk fun K hK => ?_) | (with_reducible apply_assumption -exfalso -symm) | (rw [afterRF_ret]; simp [k0,k1,k2,u8l]) | (refine T_exit ?_; try simp) | (refine T_cond_t ?_ ?_; · (simp; done)) | (refine T_cond_f ?_ ?_; · (simp; done)) | (rintro _ _ (_ | _) hz9 <;> first | (simp; done) | (simp at hz9; done)) | (refine And.intro ?_ ?_) | (simp only [Post.block_ret, Post.block_exit, Post.block_normal, Post.block_pan, Post.seq_ret, Post.seq_exit, Post.seq_normal, Post.seq_pan]; try simp [k0,k1,k2,u8l]) | (refine T_loop (TL_round ?_)) | (refine TL_round ?_) | (refine C_bodyk tOK Try.func90 rfl (Nat.le_of_ble_eq_true rfl) fun K hK => ?_; simp))
  · cases b with
    | nil =>
      refine C_bodyk tOK Try.func73 rfl (Nat.le_of_ble_eq_true rfl) fun K hK => ?_; simp
      repeat (first | (refine T_seqk fun K hK => ?_) | (refine T_reg tOK rfl ?_; simp [k0,k1,k2,u8l]) | (refine T_ret ?_; try simp) | (refine T_skip ?_; try simp) | (refine T_blockk fun K hK => ?_) | (with_reducible apply_assumption -exfalso -symm) | (rw [afterRF_ret]; simp [k0,k1,k2,u8l]) | (refine T_exit ?_; try simp) | (refine T_cond_t ?_ ?_; · (simp; done)) | (refine T_cond_f ?_ ?_; · (simp; done)) | (rintro _ _ (_ | _) hz9 <;> first | (simp; done) | (simp at hz9; done)) | (refine And.intro ?_ ?_) | (simp only [Post.block_ret, Post.block_exit, Post.block_normal, Post.block_pan, Post.seq_ret, Post.seq_exit, Post.seq_normal, Post.seq_pan]; try simp [k0,k1,k2,u8l]) | (refine T_loop (TL_round ?_)) | (refine TL_round ?_) | (refine C_bodyk tOK Try.func90 rfl (Nat.le_of_ble_eq_true rfl) fun K hK => ?_; simp))
    | cons c b =>
      simp only [List.length_nil, List.length_cons, Int.natCast_zero, Int.zero_add, Nat.zero_add, Int.natCast_add, Int.natCast_one] at hw hn1 hl
      have hp : decide (0 < (b.length : Int) + 1) = true := by rw [decide_eq_true_eq]; omega
      have q2 : 2 * (b.length + 1) ≤ 281474976709656 := by omega
      have g1 : b.length + 1 < 100000000 := by omega
      clear hl
      refine C_bodyk tOK Try.func73 rfl (Nat.le_of_ble_eq_true rfl) fun K hK => ?_; simp
      repeat (first | (refine T_seqk fun K hK => ?_) | (refine T_reg tOK rfl ?_; simp [k0,k1,k2,hw,hn1,hp]) | (refine T_ret ?_; try simp) | (refine T_skip ?_; try simp) | (refine T_blockk fun K hK => ?_) | (with_reducible apply_assumption -exfalso -symm) | (rw [afterRF_ret]; simp [k0,k1,k2,hw,hn1,hp]) | (refine T_exit ?_; try simp) | (refine T_cond_t ?_ ?_; · (simp; done)) | (refine T_cond_f ?_ ?_; · (simp; done)) | (rintro _ _ (_ | _) hz9 <;> first | (simp; done) | (simp at hz9; done)) | (refine And.intro ?_ ?_) | (simp only [Post.block_ret, Post.block_exit, Post.block_normal, Post.block_pan, Post.seq_ret, Post.seq_exit, Post.seq_normal, Post.seq_pan]; try simp [k0,k1,k2,hw,hn1,hp]) | (refine T_loop (TL_round ?_)) | (refine TL_round ?_))
      refine C_grow (n := b.length) g1 rfl ?_
      repeat (first | (refine T_seqk fun K hK => ?_) | (refine T_reg tOK rfl ?_; simp [k0,k1,k2,hw,hn1,hp,q2]) | (refine T_ret ?_; try simp) | (refine T_skip ?_; try simp) | (refine T_blockk fun K hK => ?_) | (with_reducible apply_assumption -exfalso -symm) | (rw [afterRF_ret]; simp [k0,k1,k2,hw,hn1,hp,q2]) | (refine T_exit ?_; try simp) | (refine T_cond_t ?_ ?_; · (simp; done)) | (refine T_cond_f ?_ ?_; · (simp; done)) | (rintro _ _ (_ | _) hz9 <;> first | (simp; done) | (simp at hz9; done)) | (refine And.intro ?_ ?_) | (simp only [Post.block_ret, Post.block_exit, Post.block_normal, Post.block_pan, Post.seq_ret, Post.seq_exit, Post.seq_normal, Post.seq_pan]; try simp [k0,k1,k2,hw,hn1,hp,q2]) | (refine T_loop (TL_round ?_)) | (refine TL_round ?_))
      rw [frz_row (xs := u8l (c :: b)) rfl (by simp [u8l]) (frz_u8l _ _)]
      rw [List.drop_zero, List.take_of_length_le (by simp [u8l])]; rfl
theorem C_concat {x : PV} (hx : x = u8s a ∨ (x = .nils ∧ a = [])) (h0 : Store.at σ i = some (.cells 23 0 [x, u8s b])) (hl : a.length + b.length < 100000000) (h : R (.ret (u8s (a ++ b))) σ) :
    C tE 73 [.ref i 0 0 2] σ R := by
  have hb : ∀ p, allB p x = true := by rcases hx with rfl | ⟨rfl, rfl⟩ <;> intro p <;> simp [allB, allL]
  have hat := Store.at_some h0
  have hlt := getElem?_lt hat
  refine C_own (σ0 := [some (.cells 23 0 [x, u8s b])]) (args := [.ref 0 0 0 2]) tOK [i] (by simp) rfl (by simp [allL, allB]) (by simp [allStore, allBlk, allL, allB, hb]) (fun j hj => ?_) ?_
  · have hj : j = 0 := by simp at hj; exact hj
    subst hj
    rcases hx with rfl | ⟨rfl, rfl⟩ <;> simp [nth, renStore, renBlk, renL, ren, hat]
  · refine C_concat_own x hx hl fun σ' h1 y h2 => ?_
    unfold ownRe
    have h1' : σ'.take [i].length = [some (.cells 23 0 [x, u8s b])] := h1
    refine ⟨by rw [h1']; simp [allStore, allBlk, allL, allB, hb], ?_⟩
    have h2' : frz (hide [i].length σ') 6 y = some (u8s (a ++ b)) := h2
    simp only [h2', h1']
    have : putAll σ [i] (renStore (nth [i]) [some (.cells 23 0 [x, u8s b])]) = σ := by
      have e : renStore (nth [i]) [some (.cells 23 0 [x, u8s b])] = [some (.cells 23 0 [x, u8s b])] := by
        rcases hx with rfl | ⟨rfl, rfl⟩ <;> simp [renStore, renBlk, renL, ren]
      rw [e]
      simp only [putAll]
      rw [List.getElem?_eq_getElem hlt, Option.some.injEq] at hat
      rw [← hat, List.set_getElem_self]
    rw [this]; exact h
end
end Go.Proofs.Ytdplbgfokoajjaa
end
section
/- Package disk: calls through closures. -/
set_option linter.unusedVariables false
set_option linter.unusedSimpArgs false
set_option maxRecDepth 4000
namespace Go.Proofs.Ytdplbgfokoajjaa
open Go
attribute [local simp] RF_nil RF_cons afterRF_ret nilCmp sop sGuard isCall sCallee Fr.eval Fr.get Fr.put ofConst sLoad sStore sBuiltin Fr.args bodyQ sRes oneOf sBin sInt sUn
attribute [local simp] RD_nil RD_cons noConf clear accAdd Tab.pr Tab.slot foot wid idOf refId Op.operands Call.operands sFieldAddr sNilCheck sLookup keyLit sMapSet sMapDel sLen Store.at Store.new getP setP typeAt fits evalParts sBuildSlice sFill sList sApp sAppend frzRe frz pureB pureL
attribute [local simp] dkB dkS u8s
section
variable {R : Re → Store → Prop} {σ : Store} {d : Dk} {n : Int} {s : ByteArray} {g i j : Nat}
theorem C_have (hi : i < σ.length) (hj : j < σ.length) (h0 : 0 < σ.length)
    (h : R (.ret (.fn (.func 91) [] [.laddr (.ptr 0 0 0 []), .laddr (.str s), .laddr (.fn (.func g) [] [.ptr i 0 0 [], .ptr j 0 0 []])])) σ) :
    C tE 74 [.ptr 0 0 0 [], .str s, .fn (.func g) [] [.ptr i 0 0 [], .ptr j 0 0 []]] σ R := by
  refine C_new tOK ?_
  refine C_bodyk tOK Try.func74 rfl (Nat.le_of_ble_eq_true rfl) fun K hK => ?_; simp
  repeat (first | (refine T_seqk fun K hK => ?_) | (refine T_reg tOK rfl ?_; simp) | (refine T_ret ?_; try simp) | (refine T_skip ?_; try simp) | (refine T_blockk fun K hK => ?_) | (with_reducible apply_assumption -exfalso -symm) | (rw [afterRF_ret]; simp) | (refine T_exit ?_; try simp) | (refine T_cond_t ?_ ?_; · (simp; done)) | (refine T_cond_f ?_ ?_; · (simp; done)) | (rintro _ _ (_ | _) hz9 <;> first | (simp; done) | (simp at hz9; done)) | (refine And.intro ?_ ?_) | (simp only [Post.block_ret, Post.block_exit, Post.block_normal, Post.block_pan, Post.seq_ret, Post.seq_exit, Post.seq_normal, Post.seq_pan]; try simp) | (refine T_loop (TL_round ?_)) | (refine TL_round ?_))
  · left; simp
  · have hf : ∀ a b c : Option Blk, a = some (.cells 33 0 [.ptr 0 0 0 []]) → b = some (.cells 9 0 [.str s]) → c = some (.cells 98 0 [.fn (.func g) [] [.ptr i 0 0 [], .ptr j 0 0 []]]) →
        frzT σ.length (σ ++ [a, b, c]) (.fn (.func 91) [] [.ptr σ.length 0 0 [], .ptr (σ.length + 1) 0 0 [], .ptr (σ.length + 2) 0 0 []]) =
        some (.fn (.func 91) [] [.laddr (.ptr 0 0 0 []), .laddr (.str s), .laddr (.fn (.func g) [] [.ptr i 0 0 [], .ptr j 0 0 []])]) := by
      intro a b c ha hb hc
      subst ha; subst hb; subst hc
      simp [frzT, frzN, List.getElem?_append_right, hi, hj, h0]
      rw [if_neg (by omega), if_neg (by omega)]; rfl
    simp only [hf _ _ _ rfl rfl rfl]
    simpa using h
end

theorem at_lt {σ : Store} {b : Nat} {x : Blk} (h : Store.at σ b = some x) : b < σ.length := getElem?_lt (Store.at_some h)
/-- A call of the disk's: whether it is done, and the fuse behind it. -/
def burn (d : Dk) : Dk := { d with fuse := max (d.fuse - 1) (-1) }
def ddel (n : List UInt8) (l : List (List UInt8 × Fl)) : List (List UInt8 × Fl) := l.filter fun p => !(p.1 == n)
def dins (x : List UInt8 × Fl) : List (List UInt8 × Fl) → List (List UInt8 × Fl)
  | [] => [x]
  | y :: r => if (Lit.string x.1).before (.string y.1) then x :: y :: r else y :: dins x r
def dput (n : List UInt8) (f : Fl) (l : List (List UInt8 × Fl)) : List (List UInt8 × Fl) := dins (n, f) (ddel n l)
theorem mdel_enc (n : List UInt8) (l : List (List UInt8 × Fl)) : mdel (.string n) (encFs l) = encFs (ddel n l) := by
  simp only [mdel, encFs, ddel, List.filter_map, Function.comp_def, Lit.sameKey]
theorem mins_enc (x : List UInt8 × Fl) : ∀ l, mins (.string x.1, encF x.2) (encFs l) = encFs (dins x l)
  | [] => rfl
  | y :: l => by
    have ih := mins_enc x l
    simp only [encFs, List.map_cons, mins, dins] at *
    split
    · rfl
    · simp only [List.map_cons, ih]
theorem mput_enc (n : List UInt8) (f : Fl) (l : List (List UInt8 × Fl)) : mput (.string n) (encF f) (encFs l) = encFs (dput n f l) := by
  unfold mput dput
  rw [mdel_enc, mins_enc (n, f)]
section
variable {R : Re → Store → Prop} {d : Dk} {s : ByteArray}
theorem C_sync_dead (hs : s.size ≤ maxLen) (hf : d.fuse = 0) (h : R (.ret (i64 42)) (dkS d)) : C tE 44 [.ptr 0 0 0 [], .str s] (dkS d) R := by
  refine C_new tOK ?_
  refine C_bodyk tOK Try.func44 rfl (Nat.le_of_ble_eq_true rfl) fun K hK => ?_; simp
  repeat (first | (refine T_seqk fun K hK => ?_) | (refine T_reg tOK rfl ?_; simp [hf]) | (refine T_ret ?_; try simp) | (refine T_skip ?_; try simp) | (refine T_blockk fun K hK => ?_) | (with_reducible apply_assumption -exfalso -symm) | (rw [afterRF_ret]; simp [hf]) | (refine T_exit ?_; try simp) | (refine T_cond_t ?_ ?_; · (simp; done)) | (refine T_cond_f ?_ ?_; · (simp; done)) | (rintro _ _ (_ | _) hz9 <;> first | (simp; done) | (simp at hz9; done)) | (refine And.intro ?_ ?_) | (simp only [Post.block_ret, Post.block_exit, Post.block_normal, Post.block_pan, Post.seq_ret, Post.seq_exit, Post.seq_normal, Post.seq_pan]; try simp [hf]) | (refine T_loop (TL_round ?_)) | (refine TL_round ?_) | (refine T_draw tOK tmix [([], 0), ([], 1), ([], 2), ([], 3), ([1, 2, 3], 4), ([0, 1, 2, 3, 4], 5), ([0, 1, 2, 3, 4, 5], 6)] 5 (by decide +kernel) ?_; simp [hf]))
  refine RD_call (rd := [0, 2, 3]) (fun τ hτ => C_have (at_lt ((hτ 2 (by simp)).trans rfl)) (at_lt ((hτ 3 (by simp)).trans rfl)) (at_lt ((hτ 0 (by simp)).trans rfl)) ⟨rfl, rfl⟩) ?_
  simp
  repeat (first | (refine T_seqk fun K hK => ?_) | (refine T_reg tOK rfl ?_; simp [hf]) | (refine T_ret ?_; try simp) | (refine T_skip ?_; try simp) | (refine T_blockk fun K hK => ?_) | (with_reducible apply_assumption -exfalso -symm) | (rw [afterRF_ret]; simp [hf]) | (refine T_exit ?_; try simp) | (refine T_cond_t ?_ ?_; · (simp; done)) | (refine T_cond_f ?_ ?_; · (simp; done)) | (rintro _ _ (_ | _) hz9 <;> first | (simp; done) | (simp at hz9; done)) | (refine And.intro ?_ ?_) | (simp only [Post.block_ret, Post.block_exit, Post.block_normal, Post.block_pan, Post.seq_ret, Post.seq_exit, Post.seq_normal, Post.seq_pan]; try simp [hf]) | (refine T_loop (TL_round ?_)) | (refine TL_round ?_) | (refine T_draw tOK tmix [([], 0), ([], 1), ([], 2), ([], 3), ([1, 2, 3], 4), ([0, 1, 2, 3, 4], 5), ([0, 1, 2, 3, 4, 5], 6)] 5 (by decide +kernel) ?_; simp [hf]) | (refine C_bodyk tOK Try.func70 rfl (Nat.le_of_ble_eq_true rfl) fun K hK => ?_; simp))
  · left; simp [hf]
  · simpa [frzT, frzN, hf] using h
theorem C_sync_none (hs : s.size ≤ maxLen) (hf : (d.fuse == 0) = false) (hw : IntKind.i64.wrap (d.fuse - 1) = d.fuse - 1) (hg : dget s.data.toList d.files = none) (h : R (.ret (i64 3)) (dkS (burn d))) :
    C tE 44 [.ptr 0 0 0 [], .str s] (dkS d) R := by
  have hm := mget_enc s.data.toList d.files
  rw [hg] at hm
  refine C_new tOK ?_
  refine C_bodyk tOK Try.func44 rfl (Nat.le_of_ble_eq_true rfl) fun K hK => ?_; simp
  repeat (first | (refine T_seqk fun K hK => ?_) | (refine T_reg tOK rfl ?_; simp [hf,hw]) | (refine T_ret ?_; try simp) | (refine T_skip ?_; try simp) | (refine T_blockk fun K hK => ?_) | (with_reducible apply_assumption -exfalso -symm) | (rw [afterRF_ret]; simp [hf,hw]) | (refine T_exit ?_; try simp) | (refine T_cond_t ?_ ?_; · (simp; done)) | (refine T_cond_f ?_ ?_; · (simp; done)) | (rintro _ _ (_ | _) hz9 <;> first | (simp; done) | (simp at hz9; done)) | (refine And.intro ?_ ?_) | (simp only [Post.block_ret, Post.block_exit, Post.block_normal, Post.block_pan, Post.seq_ret, Post.seq_exit, Post.seq_normal, Post.seq_pan]; try simp [hf,hw]) | (refine T_loop (TL_round ?_)) | (refine TL_round ?_) | (refine T_draw tOK tmix [([], 0), ([], 1), ([], 2), ([], 3), ([1, 2, 3], 4), ([0, 1, 2, 3, 4], 5), ([0, 1, 2, 3, 4, 5], 6)] 5 (by decide +kernel) ?_; simp [hf,hw]))
  refine RD_call (rd := [0, 2, 3]) (fun τ hτ => C_have (at_lt ((hτ 2 (by simp)).trans rfl)) (at_lt ((hτ 3 (by simp)).trans rfl)) (at_lt ((hτ 0 (by simp)).trans rfl)) ⟨rfl, rfl⟩) ?_
  simp
  repeat (first | (refine T_seqk fun K hK => ?_) | (refine T_reg tOK rfl ?_; simp [hf,hw,hs,hm]) | (refine T_ret ?_; try simp) | (refine T_skip ?_; try simp) | (refine T_blockk fun K hK => ?_) | (with_reducible apply_assumption -exfalso -symm) | (rw [afterRF_ret]; simp [hf,hw,hs,hm]) | (refine T_exit ?_; try simp) | (refine T_cond_t ?_ ?_; · (simp; done)) | (refine T_cond_f ?_ ?_; · (simp; done)) | (rintro _ _ (_ | _) hz9 <;> first | (simp; done) | (simp at hz9; done)) | (refine And.intro ?_ ?_) | (simp only [Post.block_ret, Post.block_exit, Post.block_normal, Post.block_pan, Post.seq_ret, Post.seq_exit, Post.seq_normal, Post.seq_pan]; try simp [hf,hw,hs,hm]) | (refine T_loop (TL_round ?_)) | (refine TL_round ?_) | (refine T_draw tOK tmix [([], 0), ([], 1), ([], 2), ([], 3), ([1, 2, 3], 4), ([0, 1, 2, 3, 4], 5), ([0, 1, 2, 3, 4, 5], 6)] 5 (by decide +kernel) ?_; simp [hf,hw,hs,hm]) | (refine T_draw tOK tmix [([], 1), ([0], 2), ([0, 1], 3), ([0, 1, 2], 4), ([], 5), ([0, 1, 2, 3, 4], 6), ([0, 1, 2, 3, 4, 5], 7), ([0, 1, 2, 3, 4, 5, 6], 8), ([0, 1, 2, 3, 4, 5, 6], 9), ([], 0), ([0, 1, 2, 3, 4, 5, 6, 7, 9], 10), ([0, 1, 2, 3, 4, 5, 6, 7, 8, 9, 10], 11)] 11 (by decide +kernel) ?_; simp [hf,hw,hs,hm]) | (refine C_bodyk tOK Try.func70 rfl (Nat.le_of_ble_eq_true rfl) fun K hK => ?_; simp) | (refine C_bodyk tOK Try.func91 rfl (Nat.le_of_ble_eq_true rfl) fun K hK => ?_; simp))
  · right; simp [allStore, allBlk, allL, allB]
    exact fun a b => encFs_all _ _ (a, b)
  · simpa [frzT, frzN, burn] using h
theorem C_sync_fail (hs : s.size ≤ maxLen) (hf : (d.fuse == 0) = false) (hw : IntKind.i64.wrap (d.fuse - 1) = d.fuse - 1) {f : Fl} (hg : dget s.data.toList d.files = some f) (hp : decide (0 < d.fail) = true) (hw2 : IntKind.i64.wrap (d.fail - 1) = d.fail - 1)
    (h : R (.ret (i64 41)) (dkS { burn d with fail := d.fail - 1 })) : C tE 44 [.ptr 0 0 0 [], .str s] (dkS d) R := by
  have hm := mget_enc s.data.toList d.files
  rw [hg] at hm
  refine C_new tOK ?_
  refine C_bodyk tOK Try.func44 rfl (Nat.le_of_ble_eq_true rfl) fun K hK => ?_; simp
  repeat (first | (refine T_seqk fun K hK => ?_) | (refine T_reg tOK rfl ?_; simp [hf,hw]) | (refine T_ret ?_; try simp) | (refine T_skip ?_; try simp) | (refine T_blockk fun K hK => ?_) | (with_reducible apply_assumption -exfalso -symm) | (rw [afterRF_ret]; simp [hf,hw]) | (refine T_exit ?_; try simp) | (refine T_cond_t ?_ ?_; · (simp; done)) | (refine T_cond_f ?_ ?_; · (simp; done)) | (rintro _ _ (_ | _) hz9 <;> first | (simp; done) | (simp at hz9; done)) | (refine And.intro ?_ ?_) | (simp only [Post.block_ret, Post.block_exit, Post.block_normal, Post.block_pan, Post.seq_ret, Post.seq_exit, Post.seq_normal, Post.seq_pan]; try simp [hf,hw]) | (refine T_loop (TL_round ?_)) | (refine TL_round ?_) | (refine T_draw tOK tmix [([], 0), ([], 1), ([], 2), ([], 3), ([1, 2, 3], 4), ([0, 1, 2, 3, 4], 5), ([0, 1, 2, 3, 4, 5], 6)] 5 (by decide +kernel) ?_; simp [hf,hw]))
  refine RD_call (rd := [0, 2, 3]) (fun τ hτ => C_have (at_lt ((hτ 2 (by simp)).trans rfl)) (at_lt ((hτ 3 (by simp)).trans rfl)) (at_lt ((hτ 0 (by simp)).trans rfl)) ⟨rfl, rfl⟩) ?_
  simp
  repeat (first | (refine T_seqk fun K hK => ?_) | (refine T_reg tOK rfl ?_; simp [hf,hw,hs,hm,encF,hp,hw2]) | (refine T_ret ?_; try simp) | (refine T_skip ?_; try simp) | (refine T_blockk fun K hK => ?_) | (with_reducible apply_assumption -exfalso -symm) | (rw [afterRF_ret]; simp [hf,hw,hs,hm,encF,hp,hw2]) | (refine T_exit ?_; try simp) | (refine T_cond_t ?_ ?_; · (simp; done)) | (refine T_cond_f ?_ ?_; · (simp; done)) | (rintro _ _ (_ | _) hz9 <;> first | (simp; done) | (simp at hz9; done)) | (refine And.intro ?_ ?_) | (simp only [Post.block_ret, Post.block_exit, Post.block_normal, Post.block_pan, Post.seq_ret, Post.seq_exit, Post.seq_normal, Post.seq_pan]; try simp [hf,hw,hs,hm,encF,hp,hw2]) | (refine T_loop (TL_round ?_)) | (refine TL_round ?_) | (refine T_draw tOK tmix [([], 0), ([], 1), ([], 2), ([], 3), ([1, 2, 3], 4), ([0, 1, 2, 3, 4], 5), ([0, 1, 2, 3, 4, 5], 6)] 5 (by decide +kernel) ?_; simp [hf,hw,hs,hm,encF,hp,hw2]) | (refine T_draw tOK tmix [([], 1), ([0], 2), ([0, 1], 3), ([0, 1, 2], 4), ([], 5), ([0, 1, 2, 3, 4], 6), ([0, 1, 2, 3, 4, 5], 7), ([0, 1, 2, 3, 4, 5, 6], 8), ([0, 1, 2, 3, 4, 5, 6], 9), ([], 0), ([0, 1, 2, 3, 4, 5, 6, 7, 9], 10), ([0, 1, 2, 3, 4, 5, 6, 7, 8, 9, 10], 11)] 11 (by decide +kernel) ?_; simp [hf,hw,hs,hm,encF,hp,hw2]) | (refine T_draw tOK tmix [([], 0), ([0], 1), ([0, 1], 2), ([0, 1, 2], 3), ([], 4), ([], 5), ([0, 1, 2, 3, 4, 5], 6)] 6 (by decide +kernel) ?_; simp [hf,hw,hs,hm,encF,hp,hw2]) | (refine C_bodyk tOK Try.func70 rfl (Nat.le_of_ble_eq_true rfl) fun K hK => ?_; simp) | (refine C_bodyk tOK Try.func91 rfl (Nat.le_of_ble_eq_true rfl) fun K hK => ?_; simp) | (refine C_bodyk tOK Try.func75 rfl (Nat.le_of_ble_eq_true rfl) fun K hK => ?_; simp))
  · right; simp [allStore, allBlk, allL, allB]
    exact fun a b => encFs_all _ _ (a, b)
  · simpa [frzT, frzN, burn] using h
theorem C_sync_ok (hs : s.size ≤ maxLen) (hl : (encFs d.files).length < 1000000) (hf : (d.fuse == 0) = false) (hw : IntKind.i64.wrap (d.fuse - 1) = d.fuse - 1) {f : Fl} (hg : dget s.data.toList d.files = some f) (hp : decide (0 < d.fail) = false)
    (h : R (.ret (i64 0)) (dkS { burn d with files := dput s.data.toList { f with last := f.b.length } d.files })) : C tE 44 [.ptr 0 0 0 [], .str s] (dkS d) R := by
  have hm := mget_enc s.data.toList d.files
  rw [hg] at hm
  have hq : mput (.string s.data.toList) (.agg 79 [.lit (u8l f.b), .int .i64 f.b.length]) (encFs d.files) = encFs (dput s.data.toList { f with last := f.b.length } d.files) := mput_enc s.data.toList { f with last := f.b.length } d.files
  have hlen : (u8l f.b).length = f.b.length := by simp [u8l]
  refine C_new tOK ?_
  refine C_bodyk tOK Try.func44 rfl (Nat.le_of_ble_eq_true rfl) fun K hK => ?_; simp
  repeat (first | (refine T_seqk fun K hK => ?_) | (refine T_reg tOK rfl ?_; simp [hf,hw]) | (refine T_ret ?_; try simp) | (refine T_skip ?_; try simp) | (refine T_blockk fun K hK => ?_) | (with_reducible apply_assumption -exfalso -symm) | (rw [afterRF_ret]; simp [hf,hw]) | (refine T_exit ?_; try simp) | (refine T_cond_t ?_ ?_; · (simp; done)) | (refine T_cond_f ?_ ?_; · (simp; done)) | (rintro _ _ (_ | _) hz9 <;> first | (simp; done) | (simp at hz9; done)) | (refine And.intro ?_ ?_) | (simp only [Post.block_ret, Post.block_exit, Post.block_normal, Post.block_pan, Post.seq_ret, Post.seq_exit, Post.seq_normal, Post.seq_pan]; try simp [hf,hw]) | (refine T_loop (TL_round ?_)) | (refine TL_round ?_) | (refine T_draw tOK tmix [([], 0), ([], 1), ([], 2), ([], 3), ([1, 2, 3], 4), ([0, 1, 2, 3, 4], 5), ([0, 1, 2, 3, 4, 5], 6)] 5 (by decide +kernel) ?_; simp [hf,hw]))
  refine RD_call (rd := [0, 2, 3]) (fun τ hτ => C_have (at_lt ((hτ 2 (by simp)).trans rfl)) (at_lt ((hτ 3 (by simp)).trans rfl)) (at_lt ((hτ 0 (by simp)).trans rfl)) ⟨rfl, rfl⟩) ?_
  simp
  repeat (first | (refine T_seqk fun K hK => ?_) | (refine T_reg tOK rfl ?_; simp [hf,hw,hs,hm,encF,hp,hl,hlen]) | (refine T_ret ?_; try simp) | (refine T_skip ?_; try simp) | (refine T_blockk fun K hK => ?_) | (with_reducible apply_assumption -exfalso -symm) | (rw [afterRF_ret]; simp [hf,hw,hs,hm,encF,hp,hl,hlen]) | (refine T_exit ?_; try simp) | (refine T_cond_t ?_ ?_; · (simp; done)) | (refine T_cond_f ?_ ?_; · (simp; done)) | (rintro _ _ (_ | _) hz9 <;> first | (simp; done) | (simp at hz9; done)) | (refine And.intro ?_ ?_) | (simp only [Post.block_ret, Post.block_exit, Post.block_normal, Post.block_pan, Post.seq_ret, Post.seq_exit, Post.seq_normal, Post.seq_pan]; try simp [hf,hw,hs,hm,encF,hp,hl,hlen]) | (refine T_loop (TL_round ?_)) | (refine TL_round ?_) | (refine T_draw tOK tmix [([], 0), ([], 1), ([], 2), ([], 3), ([1, 2, 3], 4), ([0, 1, 2, 3, 4], 5), ([0, 1, 2, 3, 4, 5], 6)] 5 (by decide +kernel) ?_; simp [hf,hw,hs,hm,encF,hp,hl,hlen]) | (refine T_draw tOK tmix [([], 1), ([0], 2), ([0, 1], 3), ([0, 1, 2], 4), ([], 5), ([0, 1, 2, 3, 4], 6), ([0, 1, 2, 3, 4, 5], 7), ([0, 1, 2, 3, 4, 5, 6], 8), ([0, 1, 2, 3, 4, 5, 6], 9), ([], 0), ([0, 1, 2, 3, 4, 5, 6, 7, 9], 10), ([0, 1, 2, 3, 4, 5, 6, 7, 8, 9, 10], 11)] 11 (by decide +kernel) ?_; simp [hf,hw,hs,hm,encF,hp,hl,hlen]) | (refine T_draw tOK tmix [([], 0), ([0], 1), ([0, 1], 2), ([0, 1, 2], 3), ([], 4), ([], 5), ([0, 1, 2, 3, 4, 5], 6)] 6 (by decide +kernel) ?_; simp [hf,hw,hs,hm,encF,hp,hl,hlen]) | (refine C_bodyk tOK Try.func70 rfl (Nat.le_of_ble_eq_true rfl) fun K hK => ?_; simp) | (refine C_bodyk tOK Try.func91 rfl (Nat.le_of_ble_eq_true rfl) fun K hK => ?_; simp) | (refine C_bodyk tOK Try.func75 rfl (Nat.le_of_ble_eq_true rfl) fun K hK => ?_; simp))
  · right; rw [hq]; simp [allStore, allBlk, allL, allB]
    exact fun a b => encFs_all _ _ (a, b)
  · rw [hq]; simpa [frzT, frzN, burn] using h
end
end Go.Proofs.Ytdplbgfokoajjaa
end
section
/- Package disk: Delete. -/
set_option linter.unusedVariables false
set_option linter.unusedSimpArgs false
set_option maxRecDepth 4000
namespace Go.Proofs.Ytdplbgfokoajjaa
open Go
attribute [local simp] RF_nil RF_cons afterRF_ret nilCmp sop sGuard isCall sCallee Fr.eval Fr.get Fr.put ofConst sLoad sStore sBuiltin Fr.args bodyQ sRes oneOf sBin sInt sUn
attribute [local simp] RD_nil RD_cons noConf clear accAdd Tab.pr Tab.slot foot wid idOf refId Op.operands Call.operands sFieldAddr sNilCheck sLookup keyLit sMapSet sMapDel sLen Store.at Store.new getP setP typeAt fits evalParts sBuildSlice sFill sList sApp sAppend frzRe frz pureB pureL
attribute [local simp] dkB dkS u8s
section
variable {R : Re → Store → Prop} {d : Dk} {s : ByteArray}
theorem C_delete_dead (hs : s.size ≤ maxLen) (hf : d.fuse = 0) (h : R (.ret (i64 42)) (dkS d)) : C tE 47 [.ptr 0 0 0 [], .str s] (dkS d) R := by
  refine C_new tOK ?_
  refine C_bodyk tOK Try.func47 rfl (Nat.le_of_ble_eq_true rfl) fun K hK => ?_; simp
  repeat (first | (refine T_seqk fun K hK => ?_) | (refine T_reg tOK rfl ?_; simp [hf]) | (refine T_ret ?_; try simp) | (refine T_skip ?_; try simp) | (refine T_blockk fun K hK => ?_) | (with_reducible apply_assumption -exfalso -symm) | (rw [afterRF_ret]; simp [hf]) | (refine T_exit ?_; try simp) | (refine T_cond_t ?_ ?_; · (simp; done)) | (refine T_cond_f ?_ ?_; · (simp; done)) | (rintro _ _ (_ | _) hz9 <;> first | (simp; done) | (simp at hz9; done)) | (refine And.intro ?_ ?_) | (simp only [Post.block_ret, Post.block_exit, Post.block_normal, Post.block_pan, Post.seq_ret, Post.seq_exit, Post.seq_normal, Post.seq_pan]; try simp [hf]) | (refine T_loop (TL_round ?_)) | (refine TL_round ?_) | (refine T_draw tOK tmix [([], 0), ([], 1), ([], 2), ([], 3), ([1, 2, 3], 4), ([0, 1, 2, 3, 4], 5), ([0, 1, 2, 3, 4, 5], 6)] 5 (by decide +kernel) ?_; simp [hf]))
  refine RD_call (rd := [0, 2, 3]) (fun τ hτ => C_have (at_lt ((hτ 2 (by simp)).trans rfl)) (at_lt ((hτ 3 (by simp)).trans rfl)) (at_lt ((hτ 0 (by simp)).trans rfl)) ⟨rfl, rfl⟩) ?_
  simp
  repeat (first | (refine T_seqk fun K hK => ?_) | (refine T_reg tOK rfl ?_; simp [hf]) | (refine T_ret ?_; try simp) | (refine T_skip ?_; try simp) | (refine T_blockk fun K hK => ?_) | (with_reducible apply_assumption -exfalso -symm) | (rw [afterRF_ret]; simp [hf]) | (refine T_exit ?_; try simp) | (refine T_cond_t ?_ ?_; · (simp; done)) | (refine T_cond_f ?_ ?_; · (simp; done)) | (rintro _ _ (_ | _) hz9 <;> first | (simp; done) | (simp at hz9; done)) | (refine And.intro ?_ ?_) | (simp only [Post.block_ret, Post.block_exit, Post.block_normal, Post.block_pan, Post.seq_ret, Post.seq_exit, Post.seq_normal, Post.seq_pan]; try simp [hf]) | (refine T_loop (TL_round ?_)) | (refine TL_round ?_) | (refine T_draw tOK tmix [([], 0), ([], 1), ([], 2), ([], 3), ([1, 2, 3], 4), ([0, 1, 2, 3, 4], 5), ([0, 1, 2, 3, 4, 5], 6)] 5 (by decide +kernel) ?_; simp [hf]) | (refine C_bodyk tOK Try.func70 rfl (Nat.le_of_ble_eq_true rfl) fun K hK => ?_; simp))
  · left; simp [hf]
  · simpa [frzT, frzN, hf] using h
theorem C_delete_none (hs : s.size ≤ maxLen) (hf : (d.fuse == 0) = false) (hw : IntKind.i64.wrap (d.fuse - 1) = d.fuse - 1) (hg : dget s.data.toList d.files = none) (h : R (.ret (i64 3)) (dkS (burn d))) :
    C tE 47 [.ptr 0 0 0 [], .str s] (dkS d) R := by
  have hm := mget_enc s.data.toList d.files
  rw [hg] at hm
  refine C_new tOK ?_
  refine C_bodyk tOK Try.func47 rfl (Nat.le_of_ble_eq_true rfl) fun K hK => ?_; simp
  repeat (first | (refine T_seqk fun K hK => ?_) | (refine T_reg tOK rfl ?_; simp [hf,hw]) | (refine T_ret ?_; try simp) | (refine T_skip ?_; try simp) | (refine T_blockk fun K hK => ?_) | (with_reducible apply_assumption -exfalso -symm) | (rw [afterRF_ret]; simp [hf,hw]) | (refine T_exit ?_; try simp) | (refine T_cond_t ?_ ?_; · (simp; done)) | (refine T_cond_f ?_ ?_; · (simp; done)) | (rintro _ _ (_ | _) hz9 <;> first | (simp; done) | (simp at hz9; done)) | (refine And.intro ?_ ?_) | (simp only [Post.block_ret, Post.block_exit, Post.block_normal, Post.block_pan, Post.seq_ret, Post.seq_exit, Post.seq_normal, Post.seq_pan]; try simp [hf,hw]) | (refine T_loop (TL_round ?_)) | (refine TL_round ?_) | (refine T_draw tOK tmix [([], 0), ([], 1), ([], 2), ([], 3), ([1, 2, 3], 4), ([0, 1, 2, 3, 4], 5), ([0, 1, 2, 3, 4, 5], 6)] 5 (by decide +kernel) ?_; simp [hf,hw]))
  refine RD_call (rd := [0, 2, 3]) (fun τ hτ => C_have (at_lt ((hτ 2 (by simp)).trans rfl)) (at_lt ((hτ 3 (by simp)).trans rfl)) (at_lt ((hτ 0 (by simp)).trans rfl)) ⟨rfl, rfl⟩) ?_
  simp
  repeat (first | (refine T_seqk fun K hK => ?_) | (refine T_reg tOK rfl ?_; simp [hf,hw,hs,hm]) | (refine T_ret ?_; try simp) | (refine T_skip ?_; try simp) | (refine T_blockk fun K hK => ?_) | (with_reducible apply_assumption -exfalso -symm) | (rw [afterRF_ret]; simp [hf,hw,hs,hm]) | (refine T_exit ?_; try simp) | (refine T_cond_t ?_ ?_; · (simp; done)) | (refine T_cond_f ?_ ?_; · (simp; done)) | (rintro _ _ (_ | _) hz9 <;> first | (simp; done) | (simp at hz9; done)) | (refine And.intro ?_ ?_) | (simp only [Post.block_ret, Post.block_exit, Post.block_normal, Post.block_pan, Post.seq_ret, Post.seq_exit, Post.seq_normal, Post.seq_pan]; try simp [hf,hw,hs,hm]) | (refine T_loop (TL_round ?_)) | (refine TL_round ?_) | (refine T_draw tOK tmix [([], 0), ([], 1), ([], 2), ([], 3), ([1, 2, 3], 4), ([0, 1, 2, 3, 4], 5), ([0, 1, 2, 3, 4, 5], 6)] 5 (by decide +kernel) ?_; simp [hf,hw,hs,hm]) | (refine T_draw tOK tmix [([], 1), ([0], 2), ([0, 1], 3), ([0, 1, 2], 4), ([], 5), ([0, 1, 2, 3, 4], 6), ([0, 1, 2, 3, 4, 5], 7), ([0, 1, 2, 3, 4, 5, 6], 8), ([0, 1, 2, 3, 4, 5, 6], 9), ([], 0), ([0, 1, 2, 3, 4, 5, 6, 7, 9], 10), ([0, 1, 2, 3, 4, 5, 6, 7, 8, 9, 10], 11)] 11 (by decide +kernel) ?_; simp [hf,hw,hs,hm]) | (refine C_bodyk tOK Try.func70 rfl (Nat.le_of_ble_eq_true rfl) fun K hK => ?_; simp) | (refine C_bodyk tOK Try.func91 rfl (Nat.le_of_ble_eq_true rfl) fun K hK => ?_; simp))
  · right; simp [allStore, allBlk, allL, allB]
    exact fun a b => encFs_all _ _ (a, b)
  · simpa [frzT, frzN, burn] using h
theorem C_delete_ok (hs : s.size ≤ maxLen) (hf : (d.fuse == 0) = false) (hw : IntKind.i64.wrap (d.fuse - 1) = d.fuse - 1) {f : Fl} (hg : dget s.data.toList d.files = some f)
    (h : R (.ret (i64 0)) (dkS { burn d with files := ddel s.data.toList d.files })) : C tE 47 [.ptr 0 0 0 [], .str s] (dkS d) R := by
  have hm := mget_enc s.data.toList d.files
  rw [hg] at hm
  have hq := mdel_enc s.data.toList d.files
  refine C_new tOK ?_
  refine C_bodyk tOK Try.func47 rfl (Nat.le_of_ble_eq_true rfl) fun K hK => ?_; simp
  repeat (first | (refine T_seqk fun K hK => ?_) | (refine T_reg tOK rfl ?_; simp [hf,hw]) | (refine T_ret ?_; try simp) | (refine T_skip ?_; try simp) | (refine T_blockk fun K hK => ?_) | (with_reducible apply_assumption -exfalso -symm) | (rw [afterRF_ret]; simp [hf,hw]) | (refine T_exit ?_; try simp) | (refine T_cond_t ?_ ?_; · (simp; done)) | (refine T_cond_f ?_ ?_; · (simp; done)) | (rintro _ _ (_ | _) hz9 <;> first | (simp; done) | (simp at hz9; done)) | (refine And.intro ?_ ?_) | (simp only [Post.block_ret, Post.block_exit, Post.block_normal, Post.block_pan, Post.seq_ret, Post.seq_exit, Post.seq_normal, Post.seq_pan]; try simp [hf,hw]) | (refine T_loop (TL_round ?_)) | (refine TL_round ?_) | (refine T_draw tOK tmix [([], 0), ([], 1), ([], 2), ([], 3), ([1, 2, 3], 4), ([0, 1, 2, 3, 4], 5), ([0, 1, 2, 3, 4, 5], 6)] 5 (by decide +kernel) ?_; simp [hf,hw]))
  refine RD_call (rd := [0, 2, 3]) (fun τ hτ => C_have (at_lt ((hτ 2 (by simp)).trans rfl)) (at_lt ((hτ 3 (by simp)).trans rfl)) (at_lt ((hτ 0 (by simp)).trans rfl)) ⟨rfl, rfl⟩) ?_
  simp
  repeat (first | (refine T_seqk fun K hK => ?_) | (refine T_reg tOK rfl ?_; simp [hf,hw,hs,hm,encF,hq]) | (refine T_ret ?_; try simp) | (refine T_skip ?_; try simp) | (refine T_blockk fun K hK => ?_) | (with_reducible apply_assumption -exfalso -symm) | (rw [afterRF_ret]; simp [hf,hw,hs,hm,encF,hq]) | (refine T_exit ?_; try simp) | (refine T_cond_t ?_ ?_; · (simp; done)) | (refine T_cond_f ?_ ?_; · (simp; done)) | (rintro _ _ (_ | _) hz9 <;> first | (simp; done) | (simp at hz9; done)) | (refine And.intro ?_ ?_) | (simp only [Post.block_ret, Post.block_exit, Post.block_normal, Post.block_pan, Post.seq_ret, Post.seq_exit, Post.seq_normal, Post.seq_pan]; try simp [hf,hw,hs,hm,encF,hq]) | (refine T_loop (TL_round ?_)) | (refine TL_round ?_) | (refine T_draw tOK tmix [([], 0), ([], 1), ([], 2), ([], 3), ([1, 2, 3], 4), ([0, 1, 2, 3, 4], 5), ([0, 1, 2, 3, 4, 5], 6)] 5 (by decide +kernel) ?_; simp [hf,hw,hs,hm,encF,hq]) | (refine T_draw tOK tmix [([], 1), ([0], 2), ([0, 1], 3), ([0, 1, 2], 4), ([], 5), ([0, 1, 2, 3, 4], 6), ([0, 1, 2, 3, 4, 5], 7), ([0, 1, 2, 3, 4, 5, 6], 8), ([0, 1, 2, 3, 4, 5, 6], 9), ([], 0), ([0, 1, 2, 3, 4, 5, 6, 7, 9], 10), ([0, 1, 2, 3, 4, 5, 6, 7, 8, 9, 10], 11)] 11 (by decide +kernel) ?_; simp [hf,hw,hs,hm,encF,hq]) | (refine T_draw tOK tmix [([], 0), ([0], 1), ([0, 1], 2), ([0, 1, 2], 3), ([], 4), ([0, 1, 2, 3, 4], 5)] 5 (by decide +kernel) ?_; simp [hf,hw,hs,hm,encF,hq]) | (refine C_bodyk tOK Try.func70 rfl (Nat.le_of_ble_eq_true rfl) fun K hK => ?_; simp) | (refine C_bodyk tOK Try.func91 rfl (Nat.le_of_ble_eq_true rfl) fun K hK => ?_; simp) | (refine C_bodyk tOK Try.func78 rfl (Nat.le_of_ble_eq_true rfl) fun K hK => ?_; simp))
  · right; simp [allStore, allBlk, allL, allB]
    exact fun a b => encFs_all _ _ (a, b)
  · simpa [frzT, frzN, burn] using h
end
end Go.Proofs.Ytdplbgfokoajjaa
end
section
/- Package disk: Rename. -/
set_option linter.unusedVariables false
set_option linter.unusedSimpArgs false
set_option maxRecDepth 4000
namespace Go.Proofs.Ytdplbgfokoajjaa
open Go
attribute [local simp] RF_nil RF_cons afterRF_ret nilCmp sop sGuard isCall sCallee Fr.eval Fr.get Fr.put ofConst sLoad sStore sBuiltin Fr.args bodyQ sRes oneOf sBin sInt sUn
attribute [local simp] RD_nil RD_cons noConf clear accAdd Tab.pr Tab.slot foot wid idOf refId Op.operands Call.operands sFieldAddr sNilCheck sLookup keyLit sMapSet sMapDel sLen Store.at Store.new getP setP typeAt fits evalParts sBuildSlice sFill sList sApp sAppend frzRe frz pureB pureL
attribute [local simp] dkB dkS u8s
section
variable {R : Re → Store → Prop} {d : Dk} {s t : ByteArray}
theorem C_rename_dead (hf : d.fuse = 0) (h : R (.ret (i64 42)) (dkS d)) : C tE 46 [.ptr 0 0 0 [], .str s, .str t] (dkS d) R := by
  refine C_new tOK ?_
  refine C_bodyk tOK Try.func46 rfl (Nat.le_of_ble_eq_true rfl) fun K hK => ?_; simp
  repeat (first | (refine T_seqk fun K hK => ?_) | (refine T_reg tOK rfl ?_; simp [hf]) | (refine T_ret ?_; try simp) | (refine T_skip ?_; try simp) | (refine T_blockk fun K hK => ?_) | (with_reducible apply_assumption -exfalso -symm) | (rw [afterRF_ret]; simp [hf]) | (refine T_exit ?_; try simp) | (refine T_cond_t ?_ ?_; · (simp; done)) | (refine T_cond_f ?_ ?_; · (simp; done)) | (rintro _ _ (_ | _) hz9 <;> first | (simp; done) | (simp at hz9; done)) | (refine And.intro ?_ ?_) | (simp only [Post.block_ret, Post.block_exit, Post.block_normal, Post.block_pan, Post.seq_ret, Post.seq_exit, Post.seq_normal, Post.seq_pan]; try simp [hf]) | (refine T_loop (TL_round ?_)) | (refine TL_round ?_) | (refine C_bodyk tOK Try.func70 rfl (Nat.le_of_ble_eq_true rfl) fun K hK => ?_; simp))
  · left; simp [hf]
  · simpa [frzT, frzN, hf] using h
theorem C_rename_arg (hf : (d.fuse == 0) = false) (hw : IntKind.i64.wrap (d.fuse - 1) = d.fuse - 1) (hn : named t = false) (h : R (.ret (i64 1)) (dkS (burn d))) : C tE 46 [.ptr 0 0 0 [], .str s, .str t] (dkS d) R := by
  refine C_new tOK ?_
  refine C_bodyk tOK Try.func46 rfl (Nat.le_of_ble_eq_true rfl) fun K hK => ?_; simp
  repeat (first | (refine T_seqk fun K hK => ?_) | (refine T_reg tOK rfl ?_; simp [hf,hw,hn]) | (refine T_ret ?_; try simp) | (refine T_skip ?_; try simp) | (refine T_blockk fun K hK => ?_) | (with_reducible apply_assumption -exfalso -symm) | (rw [afterRF_ret]; simp [hf,hw,hn]) | (refine T_exit ?_; try simp) | (refine T_cond_t ?_ ?_; · (simp; done)) | (refine T_cond_f ?_ ?_; · (simp; done)) | (rintro _ _ (_ | _) hz9 <;> first | (simp; done) | (simp at hz9; done)) | (refine And.intro ?_ ?_) | (simp only [Post.block_ret, Post.block_exit, Post.block_normal, Post.block_pan, Post.seq_ret, Post.seq_exit, Post.seq_normal, Post.seq_pan]; try simp [hf,hw,hn]) | (refine T_loop (TL_round ?_)) | (refine TL_round ?_) | (refine C_named ?_; simp [hf,hw,hn]) | (refine C_bodyk tOK Try.func70 rfl (Nat.le_of_ble_eq_true rfl) fun K hK => ?_; simp) | (refine C_bodyk tOK Try.func76 rfl (Nat.le_of_ble_eq_true rfl) fun K hK => ?_; simp))
  · right; simp [allStore, allBlk, allL, allB]
    exact fun a b => encFs_all _ _ (a, b)
  · simpa [frzT, frzN, burn] using h
theorem C_rename_none (hs : s.size ≤ maxLen) (hf : (d.fuse == 0) = false) (hw : IntKind.i64.wrap (d.fuse - 1) = d.fuse - 1) (hn : named t = true) (hg : dget s.data.toList d.files = none) (h : R (.ret (i64 3)) (dkS (burn d))) :
    C tE 46 [.ptr 0 0 0 [], .str s, .str t] (dkS d) R := by
  have hm := mget_enc s.data.toList d.files
  rw [hg] at hm
  refine C_new tOK ?_
  refine C_bodyk tOK Try.func46 rfl (Nat.le_of_ble_eq_true rfl) fun K hK => ?_; simp
  repeat (first | (refine T_seqk fun K hK => ?_) | (refine T_reg tOK rfl ?_; simp [hf,hw,hn,hs,hm]) | (refine T_ret ?_; try simp) | (refine T_skip ?_; try simp) | (refine T_blockk fun K hK => ?_) | (with_reducible apply_assumption -exfalso -symm) | (rw [afterRF_ret]; simp [hf,hw,hn,hs,hm]) | (refine T_exit ?_; try simp) | (refine T_cond_t ?_ ?_; · (simp; done)) | (refine T_cond_f ?_ ?_; · (simp; done)) | (rintro _ _ (_ | _) hz9 <;> first | (simp; done) | (simp at hz9; done)) | (refine And.intro ?_ ?_) | (simp only [Post.block_ret, Post.block_exit, Post.block_normal, Post.block_pan, Post.seq_ret, Post.seq_exit, Post.seq_normal, Post.seq_pan]; try simp [hf,hw,hn,hs,hm]) | (refine T_loop (TL_round ?_)) | (refine TL_round ?_) | (refine T_draw tOK tmix [([], 1), ([0], 2), ([0, 1], 3), ([0, 1, 2], 4), ([], 5), ([0, 1, 2, 3, 4], 6), ([0, 1, 2, 3, 4, 5], 7), ([0, 1, 2, 3, 4, 5, 6], 8), ([0, 1, 2, 3, 4, 5, 6], 9), ([], 0), ([0, 1, 2, 3, 4, 5, 6, 7, 9], 10), ([0, 1, 2, 3, 4, 5, 6, 7, 8, 9, 10], 11)] 11 (by decide +kernel) ?_; simp [hf,hw,hn,hs,hm]) | (refine C_named ?_; simp [hf,hw,hn,hs,hm]) | (refine C_bodyk tOK Try.func70 rfl (Nat.le_of_ble_eq_true rfl) fun K hK => ?_; simp) | (refine C_bodyk tOK Try.func76 rfl (Nat.le_of_ble_eq_true rfl) fun K hK => ?_; simp) | (refine C_bodyk tOK Try.func74 rfl (Nat.le_of_ble_eq_true rfl) fun K hK => ?_; simp) | (refine C_bodyk tOK Try.func91 rfl (Nat.le_of_ble_eq_true rfl) fun K hK => ?_; simp))
  · right; simp [allStore, allBlk, allL, allB]
    exact fun a b => encFs_all _ _ (a, b)
  · simpa [frzT, frzN, burn] using h
theorem C_rename_ok (hs : s.size ≤ maxLen) (ht : t.size ≤ maxLen) (hl : (encFs (ddel s.data.toList d.files)).length < 1000000) (hf : (d.fuse == 0) = false) (hw : IntKind.i64.wrap (d.fuse - 1) = d.fuse - 1) (hn : named t = true) {f : Fl} (hg : dget s.data.toList d.files = some f)
    (h : R (.ret (i64 0)) (dkS { burn d with files := dput t.data.toList f (ddel s.data.toList d.files) })) : C tE 46 [.ptr 0 0 0 [], .str s, .str t] (dkS d) R := by
  have hm := mget_enc s.data.toList d.files
  rw [hg] at hm
  have hq := mdel_enc s.data.toList d.files
  have hp : mput (.string t.data.toList) (.agg 79 [.lit (u8l f.b), i64 f.last]) (encFs (ddel s.data.toList d.files)) = encFs (dput t.data.toList f (ddel s.data.toList d.files)) := mput_enc t.data.toList f (ddel s.data.toList d.files)
  refine C_new tOK ?_
  refine C_bodyk tOK Try.func46 rfl (Nat.le_of_ble_eq_true rfl) fun K hK => ?_; simp
  repeat (first | (refine T_seqk fun K hK => ?_) | (refine T_reg tOK rfl ?_; simp [hf,hw,hn,hs,ht,hl,hm,hq,encF]) | (refine T_ret ?_; try simp) | (refine T_skip ?_; try simp) | (refine T_blockk fun K hK => ?_) | (with_reducible apply_assumption -exfalso -symm) | (rw [afterRF_ret]; simp [hf,hw,hn,hs,ht,hl,hm,hq,encF]) | (refine T_exit ?_; try simp) | (refine T_cond_t ?_ ?_; · (simp; done)) | (refine T_cond_f ?_ ?_; · (simp; done)) | (rintro _ _ (_ | _) hz9 <;> first | (simp; done) | (simp at hz9; done)) | (refine And.intro ?_ ?_) | (simp only [Post.block_ret, Post.block_exit, Post.block_normal, Post.block_pan, Post.seq_ret, Post.seq_exit, Post.seq_normal, Post.seq_pan]; try simp [hf,hw,hn,hs,ht,hl,hm,hq,encF]) | (refine T_loop (TL_round ?_)) | (refine TL_round ?_) | (refine T_draw tOK tmix [([], 1), ([0], 2), ([0, 1], 3), ([0, 1, 2], 4), ([], 5), ([0, 1, 2, 3, 4], 6), ([0, 1, 2, 3, 4, 5], 7), ([0, 1, 2, 3, 4, 5, 6], 8), ([0, 1, 2, 3, 4, 5, 6], 9), ([], 0), ([0, 1, 2, 3, 4, 5, 6, 7, 9], 10), ([0, 1, 2, 3, 4, 5, 6, 7, 8, 9, 10], 11)] 11 (by decide +kernel) ?_; simp [hf,hw,hn,hs,ht,hl,hm,hq,encF]) | (refine T_draw tOK tmix [([], 0), ([0], 1), ([0, 1], 2), ([0, 1, 2], 3), ([], 4), ([0, 1, 2, 3, 4], 5)] 5 (by decide +kernel) ?_; simp [hf,hw,hn,hs,ht,hl,hm,hq,encF]) | (refine T_draw tOK tmix [([], 0), ([0], 1), ([0, 1], 2), ([0, 1, 2], 3), ([], 4), ([], 5), ([0, 1, 2, 3, 4, 5], 6)] 6 (by decide +kernel) ?_; simp [hf,hw,hn,hs,ht,hl,hm,hq,encF]) | (refine C_named ?_; simp [hf,hw,hn,hs,ht,hl,hm,hq,encF]) | (refine C_bodyk tOK Try.func70 rfl (Nat.le_of_ble_eq_true rfl) fun K hK => ?_; simp) | (refine C_bodyk tOK Try.func76 rfl (Nat.le_of_ble_eq_true rfl) fun K hK => ?_; simp) | (refine C_bodyk tOK Try.func74 rfl (Nat.le_of_ble_eq_true rfl) fun K hK => ?_; simp) | (refine C_bodyk tOK Try.func91 rfl (Nat.le_of_ble_eq_true rfl) fun K hK => ?_; simp) | (refine C_bodyk tOK Try.func77 rfl (Nat.le_of_ble_eq_true rfl) fun K hK => ?_; simp))
  · right; rw [hp]; simp [allStore, allBlk, allL, allB]
    exact fun a b => encFs_all _ _ (a, b)
  · rw [hp]; simpa [frzT, frzN, burn] using h
theorem C_new_ok {σ : Store} {n : Int} (h0 : decide (n < 0) = false) (h1 : decide (1048576 < n) = false)
    (h : R (.ret (.ptr (σ.length + 1) 0 0 [])) (σ ++ [some (.mp 9 []), some (.cells 74 0 [.agg 74 [i64 n, .map σ.length, i64 (-1), i64 0]])])) : C tE 14 [i64 n] σ R := by
  refine C_bodyk tOK Try.func14 rfl (Nat.le_of_ble_eq_true rfl) fun K hK => ?_; simp
  repeat (first | (refine T_seqk fun K hK => ?_) | (refine T_reg tOK rfl ?_; simp [h0,h1,sBuild]) | (refine T_ret ?_; try simp) | (refine T_skip ?_; try simp) | (refine T_blockk fun K hK => ?_) | (with_reducible apply_assumption -exfalso -symm) | (rw [afterRF_ret]; simp [h0,h1,sBuild]) | (refine T_exit ?_; try simp) | (refine T_cond_t ?_ ?_; · (simp; done)) | (refine T_cond_f ?_ ?_; · (simp; done)) | (rintro _ _ (_ | _) hz9 <;> first | (simp; done) | (simp at hz9; done)) | (refine And.intro ?_ ?_) | (simp only [Post.block_ret, Post.block_exit, Post.block_normal, Post.block_pan, Post.seq_ret, Post.seq_exit, Post.seq_normal, Post.seq_pan]; try simp [h0,h1,sBuild]) | (refine T_loop (TL_round ?_)) | (refine TL_round ?_))
end
end Go.Proofs.Ytdplbgfokoajjaa
end
section
/- Package disk: a disk anywhere in a store. -/
set_option linter.unusedVariables false
set_option linter.unusedSimpArgs false
set_option maxRecDepth 4000
namespace Go.Proofs.Ytdplbgfokoajjaa
open Go

def dkBj (d : Dk) (j : Nat) : Blk := .cells 74 0 [.agg 74 [i64 d.room, .map j, i64 d.fuse, i64 d.fail]]
def dkM (d : Dk) : Blk := .mp 9 (encFs d.files)
/-- A disk lies in a store: its struct in block i, its files in block j. -/
structure DkAt (σ : Store) (i j : Nat) (d : Dk) : Prop where
  ne : i ≠ j
  st : σ[i]? = some (some (dkBj d j))
  mp : σ[j]? = some (some (dkM d))
def dkPut (σ : Store) (i j : Nat) (d : Dk) : Store := (σ.set i (some (dkBj d j))).set j (some (dkM d))

theorem set_self_of {α : Type} {l : List α} {i : Nat} {x : α} (h : l[i]? = some x) : l.set i x = l := by
  have hl := getElem?_lt h
  rw [List.getElem?_eq_getElem hl, Option.some.injEq] at h
  rw [← h, List.set_getElem_self]
theorem DkAt.put_self {σ : Store} {i j : Nat} {d : Dk} (h : DkAt σ i j d) : dkPut σ i j d = σ := by
  unfold dkPut
  rw [set_self_of h.st, set_self_of h.mp]
theorem DkAt.put {σ : Store} {i j : Nat} {d : Dk} (h : DkAt σ i j d) (d' : Dk) : DkAt (dkPut σ i j d') i j d' := by
  have h1 := getElem?_lt h.st
  have h2 := getElem?_lt h.mp
  refine ⟨h.ne, ?_, ?_⟩
  · unfold dkPut
    rw [List.getElem?_set_ne h.ne.symm, List.getElem?_set_self h1]
  · unfold dkPut
    rw [List.getElem?_set_self (by simpa using h2)]
theorem dkPut_put (σ : Store) {i j : Nat} (hne : i ≠ j) (d d' : Dk) : dkPut (dkPut σ i j d) i j d' = dkPut σ i j d' := by
  unfold dkPut
  rw [List.set_comm _ _ hne.symm, List.set_set, List.set_set]
theorem dkPut_len (σ : Store) (i j : Nat) (d : Dk) : (dkPut σ i j d).length = σ.length := by simp [dkPut]
theorem dkPut_other (σ : Store) {i j k : Nat} (d : Dk) (h1 : i ≠ k) (h2 : j ≠ k) : (dkPut σ i j d)[k]? = σ[k]? := by
  unfold dkPut
  rw [List.getElem?_set_ne h2, List.getElem?_set_ne h1]

theorem ren_encFs (r : Nat → Nat) (l : List (List UInt8 × Fl)) : renBlk r (.mp 9 (encFs l)) = .mp 9 (encFs l) := by
  simp only [renBlk, encFs, List.map_map]
  congr 1
theorem dkS_all (d : Dk) : allStore (fun b => decide (b < 2)) (dkS d) = true := by
  simp [dkS, dkB, allStore, allBlk, allL, allB]
  exact fun a b => encFs_all _ _ (a, b)
section
variable {R : Re → Store → Prop} {σ : Store} {d d' : Dk} {i j f : Nat} {args : List PV} {v : PV}
theorem C_at (h0 : DkAt σ i j d) (hargs : allL (fun b => decide (b < 2)) args = true) (hspec : ∀ R : Re → Store → Prop, R (.ret v) (dkS d') → C tE f args (dkS d) R)
    (hv : ∀ τ, frz τ 6 v = some v) (h : R (.ret v) (dkPut σ i j d')) : C tE f (renL (nth [i, j]) args) σ R := by
  refine C_own (σ0 := dkS d) tOK [i, j] (by simp [h0.ne]) rfl hargs (dkS_all d) (fun k hk => ?_) ?_
  · have hk : k = 0 ∨ k = 1 := by simp at hk; omega
    rcases hk with rfl | rfl
    · simp [nth, renStore, dkS, dkB, renBlk, renL, ren, h0.st, dkBj]
    · simp only [nth, renStore, dkS]
      simp [h0.mp, dkM, ren_encFs]
  · refine hspec _ ?_
    unfold ownRe
    refine ⟨by rw [show (dkS d').take [i, j].length = dkS d' from rfl]; exact dkS_all d', ?_⟩
    simp only [hv]
    have : putAll σ [i, j] (renStore (nth [i, j]) ((dkS d').take [i, j].length)) = dkPut σ i j d' := by
      rw [show (dkS d').take [i, j].length = dkS d' from rfl]
      simp only [dkS, renStore, List.map_cons, List.map_nil, Option.map_some, ren_encFs, putAll, dkPut, dkM]
      simp [renBlk, dkB, renL, ren, nth, dkBj]
    rw [this]; exact h
theorem C_at0 (h0 : DkAt σ i j d) (hargs : allL (fun b => decide (b < 2)) args = true) (hspec : ∀ R : Re → Store → Prop, R (.ret v) (dkS d) → C tE f args (dkS d) R)
    (hv : ∀ τ, frz τ 6 v = some v) (h : R (.ret v) σ) : C tE f (renL (nth [i, j]) args) σ R := C_at h0 hargs hspec hv (by rw [h0.put_self]; exact h)

theorem C_weak {args' : List PV} (hw : ∀ c vs, VL tE c args vs → VL tE c args' vs) (h : C tE f args' σ R) : C tE f args σ R := fun cx vs hn hv => h cx vs hn (hw cx _ hv)
theorem V.nils_lit {c : Cx} {v : Value} (h : V tE c .nils v) : V tE c (.lit []) v := by
  obtain ⟨a, rfl⟩ := h.nils_inv
  exact V_one (.lit0 _ _) (by simp)

theorem C_used_at (h0 : DkAt σ i j d) (hl : used d.files < 1000000000) (h : R (.ret (i64 (used d.files))) σ) : C tE 24 [.ptr i 0 0 []] σ R :=
  C_at0 (args := [.ptr 0 0 0 []]) h0 (by simp [allL, allB]) (fun R h => C_used hl h) (fun τ => rfl) h
end
end Go.Proofs.Ytdplbgfokoajjaa
end
