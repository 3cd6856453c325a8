/- Package disk: Used. -/
import Derived.Test.YtdplbgfokoajjaaGreatXg
import Derived.Test.YtdplbgfokoajjaaGreatXd
import Derived.IntWalk
section
set_option linter.unusedVariables false
set_option linter.unusedSimpArgs false
set_option maxRecDepth 20000
namespace Go.Proofs.YtdplbgfokoajjaaGreat
open Go
attribute [local simp] RF_nil RF_cons afterRF_ret nilCmp sop sGuard isCall sCallee Fr.eval Fr.get Fr.put ofConst sLoad sStore sBuiltin Fr.args bodyQ sRes oneOf sBin sInt sUn
attribute [local simp] RD_nil RD_cons noConf clear accAdd Tab.pr Tab.slot foot wid idOf refId Op.operands Call.operands sFieldAddr sNilCheck sLookup keyLit sMapSet sMapDel sLen Store.at Store.new getP setP typeAt fits evalParts sBuildSlice sFill sList sApp sAppend frzRe frz pureB pureL
attribute [local simp] dkB dkS u8s
def tot (fs : List (List UInt8 × Fl)) (g : List UInt8 → Bool) : Nat := ((fs.filter fun p => g p.1).map fun p => p.2.b.length).sum
def used (fs : List (List UInt8 × Fl)) : Nat := (fs.map fun p => p.2.b.length).sum
theorem tot_cons (p : List UInt8 × Fl) (fs : List (List UInt8 × Fl)) (g : List UInt8 → Bool) : tot (p :: fs) g = (if g p.1 then p.2.b.length else 0) + tot fs g := by
 unfold tot
 simp only [List.filter_cons]
 split <;> simp
theorem tot_le (g : List UInt8 → Bool) : ∀ fs, tot fs g ≤ used fs
 | [] => by simp [tot, used]
 | p :: fs => by
  have := tot_le g fs
  rw [tot_cons]
  simp only [used, List.map_cons, List.sum_cons] at this ⊢
  split <;> omega
theorem tot_all {g : List UInt8 → Bool} (h : ∀ n, g n = true) (fs : List (List UInt8 × Fl)) : tot fs g = used fs := by
 unfold tot used
 rw [List.filter_eq_self.2 fun p _ => h p.1]
theorem tot_none {g : List UInt8 → Bool} (fs : List (List UInt8 × Fl)) (h : ∀ p ∈ fs, g p.1 = false) : tot fs g = 0 := by
 unfold tot
 rw [List.filter_eq_nil_iff.2 fun p hp => by simp [h p hp]]; rfl
theorem tot_congr {g g' : List UInt8 → Bool} : ∀ fs : List (List UInt8 × Fl), (∀ p ∈ fs, g p.1 = g' p.1) → tot fs g = tot fs g'
 | [], _ => rfl
 | p :: fs, h => by rw [tot_cons, tot_cons, h p (by simp), tot_congr fs fun q hq => h q (by simp [hq])]
theorem tot_one {n : List UInt8} {f : Fl} {g : List UInt8 → Bool} (hg : g n = false) : ∀ fs : List (List UInt8 × Fl), fs.Pairwise (fun p q => p.1 ≠ q.1) → dget n fs = some f → tot fs (fun m => g m || m == n) = tot fs g + f.b.length
 | [], _, h => by simp [dget] at h
 | p :: fs, hp, h => by
  obtain ⟨h1, h2⟩ := List.pairwise_cons.1 hp
  rw [tot_cons, tot_cons]
  by_cases e : p.1 = n
  ·have hf : p.2 = f := by simpa [dget, e] using h
   subst e; subst hf
   have := tot_congr (g := fun m => g m || m == p.1) (g' := g) fs fun q hq => by
    have := h1 q hq
    simp [Ne.symm this]
   rw [this]
   simp [hg]; omega
  ·have hd : dget n fs = some f := by simpa [dget, List.find?_cons, e] using h
   have := tot_one hg fs h2 hd
   rw [this]
   simp [e]; omega
structure UsedSt (cx1 : Cx) (r b n : Nat) (ds : List (Lit × DataW Value)) (fs : List (List UInt8 × Fl)) (dl : List Deferred) (left : Lit → Bool) (cnt : Nat) (a : Act) (w : World) : Prop where
 sz : a.tmps.size = 21
 it : a.tmps[10]? = some (.pointer (some ⟨r, 0, none⟩))
 acc : a.tmps[3]? = some (.int .i64 (tot fs fun n => !left (.string n)))
 dl : a.defers = dl
 rg : w.ranges tE.P 9 asHeld b r n (.map ds) left cnt
 bl : RowKit.Below cx1.w.heap.size cx1.w w
 nw : cx1.w.heap.size ≤ r
theorem getD_of {a : Array Value} {t : Nat} {v : Value} (h : a[t]? = some v) : a.getD t undef = v := by simp [Array.getD_eq_getD_getElem?, h]
section
variable {R : Re → Store → Prop} {d : Dk}
set_option maxHeartbeats 1000000 in
theorem C_used (hl : used d.files < 1000000000) (h : R (.ret (i64 (used d.files))) (dkS d)) : C tE 18 [.ptr 0 0 0 []] (dkS d) R := by
 refine C_bodyk tOK Tryz.func18 rfl (Nat.le_of_ble_eq_true rfl) fun K hK => ?_; simp
 refine T_seqk fun K1 hK1 => ?_
 refine T_reg tOK rfl ?_
 simp
 apply hK1
 refine T_seqk fun K2 hK2 => ?_
 refine T_reg tOK rfl ?_
 simp
 apply hK2
 refine T_seqk fun K3 hK3 => ?_
 have hfin : ∀ fr, Fr.get fr 3 = some (i64 (used d.files)) → K3 fr (dkS d) := fun fr hfr => by
  apply hK3
  repeat (first | (refine T_seqk fun K hK => ?_) | (refine T_reg tOK rfl ?_; simp [hfr]) | (refine T_ret ?_; try simp) | (refine T_skip ?_; try simp) | (refine T_blockk fun K hK => ?_) | (with_reducible apply_assumption -exfalso -symm) | (rw [afterRF_ret]; simp [hfr]) | (refine T_exit ?_; try simp) | (refine T_cond_t ?_ ?_; · (simp; done)) | (refine T_cond_f ?_ ?_; · (simp; done)) | (rintro _ _ (_ | _) hz9 <;> first | (simp; done) | (simp at hz9; done)) | (refine And.intro ?_ ?_) | (simp only [Post.block_ret, Post.block_exit, Post.block_normal, Post.block_pan, Post.seq_ret, Post.seq_exit, Post.seq_normal, Post.seq_pan]; try simp [hfr]) | (refine T_loop (TL_round ?_)) | (refine TL_round ?_))
 clear hK3 h
 intro cx a ht hn hf
 refine wr_seq ?_
 refine wr_region_list ?_
 refine wpl_split (K := fun fr' σ' => σ' = dkS d ∧ Fr.get fr' 9 = some (.map 1) ∧ Fr.get fr' 3 = some (i64 0)) tOK 4 _ rfl ht hn hf (by simp) ?_
 rintro fr' σ' cx1 a1 ⟨rfl, h9, h3⟩ hn1 hf1 hd1 hs1
 show wpl _ _ _ [_] _ _
 obtain ⟨m, ds, k1, k2, k3, k4, hown, hml⟩ := hn1.mp (b := 1) rfl (hf1.2 9 _ h9).2
 have hstr : tE.P.underlying 9 = some .string := tOK.td 9 rfl
 have hkd := Maps.string_keyed hstr
 have hund : tE.P.underlying 52 = some (.map 9 72) := (tOK.td 52 rfl).1
 refine wpl_range_own rfl (.tmp 9) 52 rfl 9 72 hkd hund asHeld m.blk ds.length (.map ds) k4 hown ?_
 intro w1 hrg hg hsz
 refine wpl_nil ?_
 show wpr _ (Code.block 0 _) _ _ _
 refine wr_block (HeadR.loop ?_)
 have hpw : (d.files : List (List UInt8 × Fl)).Pairwise (fun p q => p.1 ≠ q.1) := by
  obtain ⟨es, h1, h2, _⟩ := hown.entries hkd
  cases h1
  have hk := hml.keys
  have : (ds.map (·.1)).Pairwise (· ≠ ·) := List.pairwise_map.2 h2
  rw [hk] at this
  have := List.pairwise_map.1 (List.pairwise_map.1 this)
  exact this.imp fun h e => h (by simp [e])
 have hsz1 : a1.tmps.size = 21 := hf1.1
 have init : UsedSt cx1 cx1.w.heap.size m.blk ds.length ds d.files a1.defers (Maps.has (.map ds)) (Maps.size (.map ds)) (a1.put (some 10) (.pointer (some ⟨cx1.w.heap.size, 0, none⟩))) w1 := by
  refine ⟨by simp [Act.put, hsz1], by simp [Act.put, hsz1], ?_, rfl, hrg, ⟨hg.os, hg.tape, hg.output, hg.size, fun k hk => hg.block k hk (by simp)⟩, Nat.le_refl _⟩
  have h0 : tot d.files (fun n => !Maps.has (.map ds) (.string n)) = 0 := tot_none _ fun p hp => by
   rcases hml.get (.string p.1) with ⟨_, _, _, _, g3, _⟩ | ⟨g1, _, _⟩
   ·simp [g3]
   ·rw [mget_enc] at g1
    simp only [Option.map_eq_none_iff, dget, List.find?_eq_none] at g1
    have := g1 p hp
    simp at this
  rw [h0]
  have := (hf1.2 3 _ h3).2.int_inv
  have h3' : a1.tmps[3]? = some (.int .i64 0) := by
   rw [Array.getElem?_eq_getElem (by omega)]
   rw [← this, Array.getD_eq_getD_getElem?, Array.getElem?_eq_getElem (by omega)]; rfl
  simp [Act.put, h3']
 refine (?key : ∀ cnt left a2 w2, UsedSt cx1 cx1.w.heap.size m.blk ds.length ds d.files a1.defers left cnt a2 w2 → HeadR _ _ _ a2 w2) _ _ _ _ init
 intro cnt
 induction cnt using Nat.strongRecOn with
 | ind cnt ih =>
 intro left a2 w2 st
 refine HeadR.round (wr_seq (wr_region_list ?_))
 have hit : a2.eval (.tmp 10) = .pointer (some ⟨cx1.w.heap.size, 0, none⟩) := getD_of st.it
 refine wpl_next_ranges (α := Value) (β := Value) rfl (.tmp 10) rfl 9 hkd asHeld id id (fun key kl _ => ⟨key, rfl⟩) (fun v y _ => ⟨v, rfl⟩) m.blk cx1.w.heap.size ds.length (.map ds) left cnt hit st.rg ?_ ?_
 ·intro h0 hleft
  refine wpl_value rfl (val := .bool false) (w' := w2) (by simp [execOp, Act.eval, Act.put, st.sz, Result.andThen, Instr.extract]) (wpl_nil ?_)
  simp only [Act.put, id_eq]
  show wpr _ _ _ _ _
  refine wr_seq (wr_cond_false (by simp [Act.eval, st.sz]) (wr_exit ?_))
  simp only [Exit.then, Exit.inBlock, if_true]
  have hacc : tot d.files (fun n => !left (.string n)) = used d.files := tot_all (fun n => by simp [hleft]) _
  have ha := st.acc
  rw [hacc] at ha
  refine ⟨.normal, [(3, i64 (used d.files))], dkS d, cx1.grown w2, rfl, hfin _ rfl, trivial, (hn1.grown st.bl).1, ⟨by simp [st.sz], fun t x ht => ?_⟩, st.dl.trans hd1, hs1.transB ((hn1.grown st.bl).2.ofBelow (hs1.topB ▸ ht))⟩
  simp only [Fr.get] at ht
  split at ht
  ·rename_i e; subst e
   simp only [Option.some.injEq] at ht; subst ht
   refine ⟨by omega, ?_⟩
   have : ((a2.tmps.setIfInBounds 11 (.tuple #[.bool false])).setIfInBounds 12 (.bool false)).getD 3 undef = .int .i64 (used d.files) := getD_of (by simp [ha])
   rw [this]
   exact V_one (.int _ _) (by simp)
  ·simp at ht
 ·intro key v kl y w3 cnt' hkey hlk hR hat hrg3 hlt hg3 hsz3 hen
  simp only [id] at hkey hR hen
  obtain ⟨x, g1, g2⟩ : ∃ x, mget kl (encFs d.files) = some x ∧ V tE cx1 x v := by
   simp only [asHeld, Option.some.injEq] at hR; subst hR
   rcases hml.get kl with ⟨x, v', g1, g2, g3, g4⟩ | ⟨g1, g3, g4⟩
   ·have := (hat .nil).symm.trans (g4 .nil)
    simp only [DataW.held.injEq] at this; subst this
    exact ⟨x, g1, g2⟩
   ·have := (hat .nil).symm.trans (g4 .nil)
    simp at this
  obtain ⟨n, rfl⟩ : ∃ n, kl = .string n := by
   unfold mget at g1
   simp only [Option.map_eq_some_iff] at g1
   obtain ⟨p, hp, _⟩ := g1
   have h1 := List.find?_some hp
   have h2 := List.mem_of_find?_eq_some hp
   obtain ⟨q, _, rfl⟩ := List.mem_map.1 h2
   cases kl <;> simp [Lit.sameKey] at h1 ⊢
  rw [mget_enc] at g1
  simp only [Option.map_eq_some_iff] at g1
  obtain ⟨f, hg, rfl⟩ := g1
  have hstep : tot d.files (fun m => !(left (.string m) && !(Lit.string m).sameKey (.string n))) = tot d.files (fun n => !left (.string n)) + f.b.length := by
   rw [← tot_one (g := fun m => !left (.string m)) (by simp [hlk]) d.files hpw hg]
   congr 1
   funext m
   simp [Lit.sameKey]
  have hle := tot_le (fun m => !(left (.string m) && !(Lit.string m).sameKey (.string n))) d.files
  have hb3 : RowKit.Below cx1.w.heap.size w2 w3 := ⟨hg3.os, hg3.tape, hg3.output, hg3.size, fun k hk => hg3.block k (Nat.lt_of_lt_of_le hk st.bl.size) (by simp; omega)⟩
  have hb13 := st.bl.trans hb3
  have hV : V tE (cx1.bare w3) (.tup [.undef, encF f]) (.tuple #[key, v]) :=
   VL.tup (us := #[key, v]) (VL.two (V_undef _) (g2.bare (by simp [encF]) fun k hk => hb13.block k (hn1.immI k hk))) .nil
  have hN3 : Now tE (cx1.bare w3) [] := Now.bare fun k hk => Nat.lt_of_lt_of_le (hn1.immI k hk) hb13.size
  refine wpl_value rfl (val := .bool true) (w' := w3) (by simp [execOp, Act.eval, Act.put, st.sz, Result.andThen, Instr.extract]) (wpl_nil ?_)
  simp only [Act.put, id_eq]
  show wpr _ _ _ _ _
  refine wr_seq (wr_cond_true (by simp [Act.eval, st.sz]) (wr_skip ?_))
  show wpr _ _ _ _ _
  refine wr_block (wr_seq (wr_region_list ?_))
  have hit3 : ((a2.tmps.setIfInBounds 11 (.tuple #[.bool true, key, v])).setIfInBounds 12 (.bool true)).getD 10 undef = .pointer (some ⟨cx1.w.heap.size, 0, none⟩) := getD_of (by simp [st.it])
  refine wpl_value rfl (val := .tuple #[key, v]) (w' := w3) (by simp only [execOp, Act.eval, hit3, hen, Sem.run_bind, Result.andThen_ok, Sem.run_pure]) ?_
  simp only [Act.put, id_eq]
  have hacc := st.acc
  generalize hA : (((a2.tmps.setIfInBounds 11 (.tuple #[.bool true, key, v])).setIfInBounds 12 (.bool true)).setIfInBounds 13 (.tuple #[key, v])) = tm
  have e10 : tm[10]? = some (.pointer (some ⟨cx1.w.heap.size, 0, none⟩)) := by rw [← hA]; simp [st.it]
  have e3 : tm[3]? = some (.int .i64 (tot d.files fun n => !left (.string n))) := by rw [← hA]; simp [hacc]
  have e13 : tm[13]? = some (.tuple #[key, v]) := by rw [← hA]; simp [st.sz]
  have esz : tm.size = 21 := by rw [← hA]; simp [st.sz]
  have hf3 : FR tE (cx1.bare w3) 21 [(13, .tup [.undef, encF f]), (3, i64 (tot d.files fun n => !left (.string n)))] tm := by
   refine ⟨esz, fun t x ht => ?_⟩
   simp only [Fr.get] at ht
   split at ht
   ·rename_i e; subst e
    simp only [Option.some.injEq] at ht; subst ht
    exact ⟨by omega, by rw [getD_of e13]; exact hV⟩
   ·split at ht
    ·rename_i e; subst e
     simp only [Option.some.injEq] at ht; subst ht
     exact ⟨by omega, by rw [getD_of e3]; exact V_one (.int _ _) (by simp)⟩
    ·simp at ht
  refine wpl_keeping (cx := cx1.bare w3) (z := 0) (K := fun fr' σ' => Fr.get fr' 5 = some (.ptr 0 0 0 []) ∧ Fr.get fr' 3 = some (i64 (tot d.files fun n => !left (.string n))) ∧ σ' = [some (.cells 72 0 [encF f])]) tOK 10 _ rfl (Nat.le_refl _) hN3 hf3 (by simp [encF]) ?_
  rintro fr4 σ4 cx4 a4 ⟨h5, h3', rfl⟩ hn4 hf4 hd4 hs4 ht4
  show wpr _ _ _ _ _
  refine wr_region_list ?_
  have hlen : (u8l f.b).length = f.b.length := by simp [u8l]
  refine wpl_keeping (z := 1) (K := fun fr' σ' => Fr.get fr' 3 = some (i64 (tot d.files fun m => !(left (.string m) && !(Lit.string m).sameKey (.string n))))) tOK 10 _ rfl (by rw [hs4.top]; exact Nat.zero_le _) hn4 hf4 (by
   rw [hstep]
   simp [h5, h3', encF, hlen]
   have hs4' := hstep; exact IntWalk.i64_in _ (by omega)) ?_
  rintro fr5 σ5 cx5 a5 h3'' hn5 hf5 hd5 hs5 ht5
  show HeadR _ _ _ _ _
  have hk45 : ∀ k, k < w3.heap.size → cx5.w.heap[k]? = w3.heap[k]? := fun k hk => (hs5.keeps k (hs4.F k hk)).trans (hs4.keeps k hk)
  have hsz45 : w3.heap.size ≤ cx5.w.heap.size := Nat.le_trans hs4.size hs5.size
  refine ih cnt' hlt (fun x => left x && !x.sameKey (.string n)) a5 cx5.w ⟨hf5.1, ht5.trans (ht4.trans e10), ?_, hd5.trans (hd4.trans st.dl), ?_, hb13.trans ⟨hs5.os.trans hs4.os, hs5.tape.trans hs4.tape, hs5.output.trans hs4.output, hsz45, fun k hk => hk45 k (Nat.lt_of_lt_of_le hk hb13.size)⟩, Nat.le_refl _⟩
  ·have := (hf5.2 3 _ h3'').2.int_inv
   rw [Array.getElem?_eq_getElem (by rw [hf5.1]; omega)]
   rw [← this, Array.getD_eq_getD_getElem?, Array.getElem?_eq_getElem (by rw [hf5.1]; omega)]; rfl
  ·exact hrg3.kept (row := none) ⟨hs5.os.trans hs4.os, hs5.tape.trans hs4.tape, hs5.output.trans hs4.output, hsz45, fun k hk _ => hk45 k hk⟩ (by simp) (by simp)
end
end Go.Proofs.YtdplbgfokoajjaaGreat
end
section
set_option linter.unusedVariables false
set_option linter.unusedSimpArgs false
set_option maxRecDepth 20000
namespace Go.Proofs.YtdplbgfokoajjaaGreat
open Go
attribute [local simp] RF_nil RF_cons afterRF_ret nilCmp sop sGuard isCall sCallee Fr.eval Fr.get Fr.put ofConst sLoad sStore sBuiltin Fr.args bodyQ sRes oneOf sBin sInt sUn
attribute [local simp] RD_nil RD_cons noConf clear accAdd Tab.pr Tab.slot foot wid idOf refId Op.operands Call.operands sFieldAddr sNilCheck sLookup keyLit sMapSet sMapDel sLen Store.at Store.new getP setP typeAt fits evalParts sBuildSlice sFill sList sApp sAppend frzRe frz pureB pureL
attribute [local simp] dkB dkS u8s optEval sSlice
section
variable {R : Re → Store → Prop} {σ : Store} {a b : List UInt8} {i : Nat}
theorem C_grow {n : Nat} {m : Int} (hn : n + 1 < 100000000) (hm : m = (n : Int) + 1)
  (h : R (.ret (.ref σ.length 0 0 0)) (σ ++ [some (.cells 5 0 (.int .u8 0 :: List.replicate n (.int .u8 0)))])) : C tE 86 [.nils, i64 m] σ R := by
 have k0 : IntKind.i64.wrap 0 = 0 := by decide
 have hw : IntKind.i64.wrap m = m := IntWalk.i64_in _ (by omega)
 have hn0 : decide (m < 0) = false := by rw [decide_eq_false_iff_not]; omega
 have hp : decide (0 < m) = true := by rw [decide_eq_true_eq]; omega
 have q0 : (0 : Int) ≤ m := by omega
 have q1 : m < 1073741824 := by omega
 have hc : m.toNat = n + 1 := by omega
 have q5 : 2 * (n + 1) ≤ 281474976709656 := by omega
 clear hm hn
 refine C_bodyk tOK Tryz.func86 rfl (Nat.le_of_ble_eq_true rfl) fun K hK => ?_; simp
 repeat (first | (refine T_seqk fun K hK => ?_) | (refine T_reg tOK rfl ?_; simp [k0,hw,hn0,hp,hc,List.replicate_succ,q5,q0,q1]) | (refine T_ret ?_; try simp) | (refine T_skip ?_; try simp) | (refine T_blockk fun K hK => ?_) | (with_reducible apply_assumption -exfalso -symm) | (rw [afterRF_ret]; simp [k0,hw,hn0,hp,hc,List.replicate_succ,q5,q0,q1]) | (refine T_exit ?_; try simp) | (refine T_cond_t ?_ ?_; · (simp; done)) | (refine T_cond_f ?_ ?_; · (simp; done)) | (rintro _ _ (_ | _) hz9 <;> first | (simp; done) | (simp at hz9; done)) | (refine And.intro ?_ ?_) | (simp only [Post.block_ret, Post.block_exit, Post.block_normal, Post.block_pan, Post.seq_ret, Post.seq_exit, Post.seq_normal, Post.seq_pan]; try simp [k0,hw,hn0,hp,hc,List.replicate_succ,q5,q0,q1]) | (refine T_loop (TL_round ?_)) | (refine TL_round ?_))
theorem C_concat_own (x : PV) (hx : x = u8s a ∨ (x = .nils ∧ a = [])) (hl : a.length + b.length < 100000000)
  (h : ∀ σ', σ'.take 1 = [some (.cells 32 0 [x, u8s b])] → ∀ y, frz (hide 1 σ') 6 y = some (u8s (a ++ b)) → R (.ret y) σ') :
  C tE 64 [.ref 0 0 0 2] [some (.cells 32 0 [x, u8s b])] R := by
 have hw : IntKind.i64.wrap ((a.length : Int) + b.length) = (a.length : Int) + b.length := IntWalk.i64_in _ (by omega)
 have hw0 : IntKind.i64.wrap (a.length : Int) = a.length := IntWalk.i64_in _ (by omega)
 have hn0 : decide ((a.length : Int) < 0) = false := by simp
 have hn1 : decide ((a.length : Int) + b.length < 0) = false := by simp; omega
 have k1 : IntKind.i64.wrap 1 = 1 := by decide
 have k2 : IntKind.i64.wrap 2 = 2 := by decide
 have k0 : IntKind.i64.wrap 0 = 0 := by decide
 unfold u8s u8l at h
 unfold u8s u8l
 unfold u8s u8l at hx
 rcases hx with rfl | ⟨rfl, rfl⟩
 ·cases hp : decide (0 < (a.length : Int) + b.length) with
  | true =>
   obtain ⟨t, ht⟩ : ∃ t, a.length + b.length = t + 1 := ⟨a.length + b.length - 1, by simp at hp; omega⟩
   have q2 : 2 * (a.length + b.length) ≤ 281474976709656 := by omega
   have q3 : 2 * a.length ≤ 281474976709656 := by omega
   have g1 : t + 1 < 100000000 := by omega
   have g2 : (a.length : Int) + b.length = (t : Int) + 1 := by omega
   clear ht hl
   refine C_bodyk tOK Tryz.func64 rfl (Nat.le_of_ble_eq_true rfl) fun K hK => ?_; simp
   repeat (first | (refine T_seqk fun K hK => ?_) | (refine T_reg tOK rfl ?_; simp [k0,k1,k2,hw,hw0,hn0,hn1,hp]) | (refine T_ret ?_; try simp) | (refine T_skip ?_; try simp) | (refine T_blockk fun K hK => ?_) | (with_reducible apply_assumption -exfalso -symm) | (rw [afterRF_ret]; simp [k0,k1,k2,hw,hw0,hn0,hn1,hp]) | (refine T_exit ?_; try simp) | (refine T_cond_t ?_ ?_; · (simp; done)) | (refine T_cond_f ?_ ?_; · (simp; done)) | (rintro _ _ (_ | _) hz9 <;> first | (simp; done) | (simp at hz9; done)) | (refine And.intro ?_ ?_) | (simp only [Post.block_ret, Post.block_exit, Post.block_normal, Post.block_pan, Post.seq_ret, Post.seq_exit, Post.seq_normal, Post.seq_pan]; try simp [k0,k1,k2,hw,hw0,hn0,hn1,hp]) | (refine T_loop (TL_round ?_)) | (refine TL_round ?_))
   refine C_grow (n := t) g1 g2 ?_
   repeat (first | (refine T_seqk fun K hK => ?_) | (refine T_reg tOK rfl ?_; simp [k0,k1,k2,hw,hw0,hn0,hn1,hp,q2,q3]) | (refine T_ret ?_; try simp) | (refine T_skip ?_; try simp) | (refine T_blockk fun K hK => ?_) | (with_reducible apply_assumption -exfalso -symm) | (rw [afterRF_ret]; simp [k0,k1,k2,hw,hw0,hn0,hn1,hp,q2,q3]) | (refine T_exit ?_; try simp) | (refine T_cond_t ?_ ?_; · (simp; done)) | (refine T_cond_f ?_ ?_; · (simp; done)) | (rintro _ _ (_ | _) hz9 <;> first | (simp; done) | (simp at hz9; done)) | (refine And.intro ?_ ?_) | (simp only [Post.block_ret, Post.block_exit, Post.block_normal, Post.block_pan, Post.seq_ret, Post.seq_exit, Post.seq_normal, Post.seq_pan]; try simp [k0,k1,k2,hw,hw0,hn0,hn1,hp,q2,q3]) | (refine T_loop (TL_round ?_)) | (refine TL_round ?_))
   rw [List.take_of_length_le (by simp), ← List.map_append]
   rw [frz_row (xs := u8l (a ++ b)) rfl (by simp [u8l]) (frz_u8l _ _)]
   rw [List.drop_zero, List.take_of_length_le (by simp [u8l])]; rfl
  | false =>
   have ea : a = [] := List.length_eq_zero_iff.1 (by simp at hp; omega)
   have eb : b = [] := List.length_eq_zero_iff.1 (by simp at hp; omega)
   subst ea; subst eb
   refine C_bodyk tOK Tryz.func64 rfl (Nat.le_of_ble_eq_true rfl) fun K hK => ?_; simp
   repeat (first | (refine T_seqk fun K hK => ?_) | (refine T_reg tOK rfl ?_; simp [k0,k1,k2,u8l]) | (refine T_ret ?_; try simp) | (refine T_skip ?_; try simp) | (refine T_blockk fun K hK => ?_) | (with_reducible apply_assumption -exfalso -symm) | (rw [afterRF_ret]; simp [k0,k1,k2,u8l]) | (refine T_exit ?_; try simp) | (refine T_cond_t ?_ ?_; · (simp; done)) | (refine T_cond_f ?_ ?_; · (simp; done)) | (rintro _ _ (_ | _) hz9 <;> first | (simp; done) | (simp at hz9; done)) | (refine And.intro ?_ ?_) | (simp only [Post.block_ret, Post.block_exit, Post.block_normal, Post.block_pan, Post.seq_ret, Post.seq_exit, Post.seq_normal, Post.seq_pan]; try simp [k0,k1,k2,u8l]) | (refine T_loop (TL_round ?_)) | (refine TL_round ?_) | (refine C_bodyk tOK Tryz.func86 rfl (Nat.le_of_ble_eq_true rfl) fun K hK => ?_; simp))
 ·cases b with
  | nil =>
   refine C_bodyk tOK Tryz.func64 rfl (Nat.le_of_ble_eq_true rfl) fun K hK => ?_; simp
   repeat (first | (refine T_seqk fun K hK => ?_) | (refine T_reg tOK rfl ?_; simp [k0,k1,k2,u8l]) | (refine T_ret ?_; try simp) | (refine T_skip ?_; try simp) | (refine T_blockk fun K hK => ?_) | (with_reducible apply_assumption -exfalso -symm) | (rw [afterRF_ret]; simp [k0,k1,k2,u8l]) | (refine T_exit ?_; try simp) | (refine T_cond_t ?_ ?_; · (simp; done)) | (refine T_cond_f ?_ ?_; · (simp; done)) | (rintro _ _ (_ | _) hz9 <;> first | (simp; done) | (simp at hz9; done)) | (refine And.intro ?_ ?_) | (simp only [Post.block_ret, Post.block_exit, Post.block_normal, Post.block_pan, Post.seq_ret, Post.seq_exit, Post.seq_normal, Post.seq_pan]; try simp [k0,k1,k2,u8l]) | (refine T_loop (TL_round ?_)) | (refine TL_round ?_) | (refine C_bodyk tOK Tryz.func86 rfl (Nat.le_of_ble_eq_true rfl) fun K hK => ?_; simp))
  | cons c b =>
   simp only [List.length_nil, List.length_cons, Int.natCast_zero, Int.zero_add, Nat.zero_add, Int.natCast_add, Int.natCast_one] at hw hn1 hl
   have hp : decide (0 < (b.length : Int) + 1) = true := by rw [decide_eq_true_eq]; omega
   have q2 : 2 * (b.length + 1) ≤ 281474976709656 := by omega
   have g1 : b.length + 1 < 100000000 := by omega
   clear hl
   refine C_bodyk tOK Tryz.func64 rfl (Nat.le_of_ble_eq_true rfl) fun K hK => ?_; simp
   repeat (first | (refine T_seqk fun K hK => ?_) | (refine T_reg tOK rfl ?_; simp [k0,k1,k2,hw,hn1,hp]) | (refine T_ret ?_; try simp) | (refine T_skip ?_; try simp) | (refine T_blockk fun K hK => ?_) | (with_reducible apply_assumption -exfalso -symm) | (rw [afterRF_ret]; simp [k0,k1,k2,hw,hn1,hp]) | (refine T_exit ?_; try simp) | (refine T_cond_t ?_ ?_; · (simp; done)) | (refine T_cond_f ?_ ?_; · (simp; done)) | (rintro _ _ (_ | _) hz9 <;> first | (simp; done) | (simp at hz9; done)) | (refine And.intro ?_ ?_) | (simp only [Post.block_ret, Post.block_exit, Post.block_normal, Post.block_pan, Post.seq_ret, Post.seq_exit, Post.seq_normal, Post.seq_pan]; try simp [k0,k1,k2,hw,hn1,hp]) | (refine T_loop (TL_round ?_)) | (refine TL_round ?_))
   refine C_grow (n := b.length) g1 rfl ?_
   repeat (first | (refine T_seqk fun K hK => ?_) | (refine T_reg tOK rfl ?_; simp [k0,k1,k2,hw,hn1,hp,q2]) | (refine T_ret ?_; try simp) | (refine T_skip ?_; try simp) | (refine T_blockk fun K hK => ?_) | (with_reducible apply_assumption -exfalso -symm) | (rw [afterRF_ret]; simp [k0,k1,k2,hw,hn1,hp,q2]) | (refine T_exit ?_; try simp) | (refine T_cond_t ?_ ?_; · (simp; done)) | (refine T_cond_f ?_ ?_; · (simp; done)) | (rintro _ _ (_ | _) hz9 <;> first | (simp; done) | (simp at hz9; done)) | (refine And.intro ?_ ?_) | (simp only [Post.block_ret, Post.block_exit, Post.block_normal, Post.block_pan, Post.seq_ret, Post.seq_exit, Post.seq_normal, Post.seq_pan]; try simp [k0,k1,k2,hw,hn1,hp,q2]) | (refine T_loop (TL_round ?_)) | (refine TL_round ?_))
   rw [frz_row (xs := u8l (c :: b)) rfl (by simp [u8l]) (frz_u8l _ _)]
   rw [List.drop_zero, List.take_of_length_le (by simp [u8l])]; rfl
theorem C_concat {x : PV} (hx : x = u8s a ∨ (x = .nils ∧ a = [])) (h0 : Store.at σ i = some (.cells 32 0 [x, u8s b])) (hl : a.length + b.length < 100000000) (h : R (.ret (u8s (a ++ b))) σ) :
  C tE 64 [.ref i 0 0 2] σ R := by
 have hb : ∀ p, allB p x = true := by rcases hx with rfl | ⟨rfl, rfl⟩ <;> intro p <;> simp [allB, allL]
 have hat := Store.at_some h0
 have hlt := getElem?_lt hat
 refine C_own (σ0 := [some (.cells 32 0 [x, u8s b])]) (args := [.ref 0 0 0 2]) tOK [i] (by simp) rfl (by simp [allL, allB]) (by simp [allStore, allBlk, allL, allB, hb]) (fun j hj => ?_) ?_
 ·have hj : j = 0 := by simp at hj; exact hj
  subst hj
  rcases hx with rfl | ⟨rfl, rfl⟩ <;> simp [nth, renStore, renBlk, renL, ren, hat]
 ·refine C_concat_own x hx hl fun σ' h1 y h2 => ?_
  unfold ownRe
  have h1' : σ'.take [i].length = [some (.cells 32 0 [x, u8s b])] := h1
  refine ⟨by rw [h1']; simp [allStore, allBlk, allL, allB, hb], ?_⟩
  have h2' : frz (hide [i].length σ') 6 y = some (u8s (a ++ b)) := h2
  simp only [h2', h1']
  have : putAll σ [i] (renStore (nth [i]) [some (.cells 32 0 [x, u8s b])]) = σ := by
   have e : renStore (nth [i]) [some (.cells 32 0 [x, u8s b])] = [some (.cells 32 0 [x, u8s b])] := by
    rcases hx with rfl | ⟨rfl, rfl⟩ <;> simp [renStore, renBlk, renL, ren]
   rw [e]
   simp only [putAll]
   rw [List.getElem?_eq_getElem hlt, Option.some.injEq] at hat
   rw [← hat, List.set_getElem_self]
  rw [this]; exact h
end
end Go.Proofs.YtdplbgfokoajjaaGreat
end
section
set_option linter.unusedVariables false
set_option linter.unusedSimpArgs false
set_option maxRecDepth 20000
namespace Go.Proofs.YtdplbgfokoajjaaGreat
open Go
attribute [local simp] RF_nil RF_cons afterRF_ret nilCmp sop sGuard isCall sCallee Fr.eval Fr.get Fr.put ofConst sLoad sStore sBuiltin Fr.args bodyQ sRes oneOf sBin sInt sUn
attribute [local simp] RD_nil RD_cons noConf clear accAdd Tab.pr Tab.slot foot wid idOf refId Op.operands Call.operands sFieldAddr sNilCheck sLookup keyLit sMapSet sMapDel sLen Store.at Store.new getP setP typeAt fits evalParts sBuildSlice sFill sList sApp sAppend frzRe frz pureB pureL
attribute [local simp] dkB dkS u8s
section
variable {R : Re → Store → Prop} {σ : Store} {d : Dk} {n : Int} {s : ByteArray} {g i j : Nat}
theorem C_have (hi : i < σ.length) (hj : j < σ.length) (h0 : 0 < σ.length)
    (h : R (.ret (.fn (.func 83) [] [.laddr (.ptr 0 0 0 []), .laddr (.str s), .laddr (.fn (.func g) [] [.ptr i 0 0 [], .ptr j 0 0 []])])) σ) :
    C tE 57 [.ptr 0 0 0 [], .str s, .fn (.func g) [] [.ptr i 0 0 [], .ptr j 0 0 []]] σ R := by
  refine C_new tOK ?_
  refine C_bodyk tOK Tryz.func57 rfl (Nat.le_of_ble_eq_true rfl) fun K hK => ?_; simp
  repeat (first | (refine T_seqk fun K hK => ?_) | (refine T_reg tOK rfl ?_; simp) | (refine T_ret ?_; try simp) | (refine T_skip ?_; try simp) | (refine T_blockk fun K hK => ?_) | (with_reducible apply_assumption -exfalso -symm) | (rw [afterRF_ret]; simp) | (refine T_exit ?_; try simp) | (refine T_cond_t ?_ ?_; · (simp; done)) | (refine T_cond_f ?_ ?_; · (simp; done)) | (rintro _ _ (_ | _) hz9 <;> first | (simp; done) | (simp at hz9; done)) | (refine And.intro ?_ ?_) | (simp only [Post.block_ret, Post.block_exit, Post.block_normal, Post.block_pan, Post.seq_ret, Post.seq_exit, Post.seq_normal, Post.seq_pan]; try simp) | (refine T_loop (TL_round ?_)) | (refine TL_round ?_))
  · left; simp
  · have hf : ∀ a b c : Option Blk, a = some (.cells 25 0 [.ptr 0 0 0 []]) → b = some (.cells 9 0 [.str s]) → c = some (.cells 85 0 [.fn (.func g) [] [.ptr i 0 0 [], .ptr j 0 0 []]]) →
        frzT σ.length (σ ++ [a, b, c]) (.fn (.func 83) [] [.ptr σ.length 0 0 [], .ptr (σ.length + 1) 0 0 [], .ptr (σ.length + 2) 0 0 []]) =
        some (.fn (.func 83) [] [.laddr (.ptr 0 0 0 []), .laddr (.str s), .laddr (.fn (.func g) [] [.ptr i 0 0 [], .ptr j 0 0 []])]) := by
      intro a b c ha hb hc
      subst ha; subst hb; subst hc
      simp [frzT, frzN, List.getElem?_append_right, hi, hj, h0]
      rw [if_neg (by omega), if_neg (by omega)]; rfl
    simp only [hf _ _ _ rfl rfl rfl]
    simpa using h
end
theorem at_lt {σ : Store} {b : Nat} {x : Blk} (h : Store.at σ b = some x) : b < σ.length := getElem?_lt (Store.at_some h)
def burn (d : Dk) : Dk := { d with fuse := max (d.fuse - 1) (-1) }
def ddel (n : List UInt8) (l : List (List UInt8 × Fl)) : List (List UInt8 × Fl) := l.filter fun p => !(p.1 == n)
def dins (x : List UInt8 × Fl) : List (List UInt8 × Fl) → List (List UInt8 × Fl)
 | [] => [x]
 | y :: r => if (Lit.string x.1).before (.string y.1) then x :: y :: r else y :: dins x r
def dput (n : List UInt8) (f : Fl) (l : List (List UInt8 × Fl)) : List (List UInt8 × Fl) := dins (n, f) (ddel n l)
theorem mdel_enc (n : List UInt8) (l : List (List UInt8 × Fl)) : mdel (.string n) (encFs l) = encFs (ddel n l) := by
 simp only [mdel, encFs, ddel, List.filter_map, Function.comp_def, Lit.sameKey]
theorem mins_enc (x : List UInt8 × Fl) : ∀ l, mins (.string x.1, encF x.2) (encFs l) = encFs (dins x l)
 | [] => rfl
 | y :: l => by
  have ih := mins_enc x l
  simp only [encFs, List.map_cons, mins, dins] at *
  split
  ·rfl
  ·simp only [List.map_cons, ih]
theorem mput_enc (n : List UInt8) (f : Fl) (l : List (List UInt8 × Fl)) : mput (.string n) (encF f) (encFs l) = encFs (dput n f l) := by
 unfold mput dput
 rw [mdel_enc, mins_enc (n, f)]
section
variable {R : Re → Store → Prop} {d : Dk} {s : ByteArray}
theorem C_sync_dead (hs : s.size ≤ maxLen) (hf : d.fuse = 0) (h : R (.ret (i64 42)) (dkS d)) : C tE 25 [.ptr 0 0 0 [], .str s] (dkS d) R := by
 refine C_new tOK ?_
 refine C_bodyk tOK Tryz.func25 rfl (Nat.le_of_ble_eq_true rfl) fun K hK => ?_; simp
 repeat (first | (refine T_seqk fun K hK => ?_) | (refine T_reg tOK rfl ?_; simp [hf]) | (refine T_ret ?_; try simp) | (refine T_skip ?_; try simp) | (refine T_blockk fun K hK => ?_) | (with_reducible apply_assumption -exfalso -symm) | (rw [afterRF_ret]; simp [hf]) | (refine T_exit ?_; try simp) | (refine T_cond_t ?_ ?_; · (simp; done)) | (refine T_cond_f ?_ ?_; · (simp; done)) | (rintro _ _ (_ | _) hz9 <;> first | (simp; done) | (simp at hz9; done)) | (refine And.intro ?_ ?_) | (simp only [Post.block_ret, Post.block_exit, Post.block_normal, Post.block_pan, Post.seq_ret, Post.seq_exit, Post.seq_normal, Post.seq_pan]; try simp [hf]) | (refine T_loop (TL_round ?_)) | (refine TL_round ?_) | (refine T_draw tOK tmix [([], 0), ([], 1), ([], 2), ([], 3), ([1, 2, 3], 4), ([0, 1, 2, 3, 4], 5), ([0, 1, 2, 3, 4, 5], 6)] 5 (by decide +kernel) ?_; simp [hf]))
 refine RD_call (rd := [0, 2, 3]) (fun τ hτ => C_have (at_lt ((hτ 2 (by simp)).trans rfl)) (at_lt ((hτ 3 (by simp)).trans rfl)) (at_lt ((hτ 0 (by simp)).trans rfl)) ⟨rfl, rfl⟩) ?_
 simp
 repeat (first | (refine T_seqk fun K hK => ?_) | (refine T_reg tOK rfl ?_; simp [hf]) | (refine T_ret ?_; try simp) | (refine T_skip ?_; try simp) | (refine T_blockk fun K hK => ?_) | (with_reducible apply_assumption -exfalso -symm) | (rw [afterRF_ret]; simp [hf]) | (refine T_exit ?_; try simp) | (refine T_cond_t ?_ ?_; · (simp; done)) | (refine T_cond_f ?_ ?_; · (simp; done)) | (rintro _ _ (_ | _) hz9 <;> first | (simp; done) | (simp at hz9; done)) | (refine And.intro ?_ ?_) | (simp only [Post.block_ret, Post.block_exit, Post.block_normal, Post.block_pan, Post.seq_ret, Post.seq_exit, Post.seq_normal, Post.seq_pan]; try simp [hf]) | (refine T_loop (TL_round ?_)) | (refine TL_round ?_) | (refine T_draw tOK tmix [([], 0), ([], 1), ([], 2), ([], 3), ([1, 2, 3], 4), ([0, 1, 2, 3, 4], 5), ([0, 1, 2, 3, 4, 5], 6)] 5 (by decide +kernel) ?_; simp [hf]) | (refine C_bodyk tOK Tryz.func56 rfl (Nat.le_of_ble_eq_true rfl) fun K hK => ?_; simp))
 ·left; simp [hf]
 ·simpa [frzT, frzN, hf] using h
theorem C_sync_none (hs : s.size ≤ maxLen) (hf : (d.fuse == 0) = false) (hw : IntKind.i64.wrap (d.fuse - 1) = d.fuse - 1) (hg : dget s.data.toList d.files = none) (h : R (.ret (i64 3)) (dkS (burn d))) :
  C tE 25 [.ptr 0 0 0 [], .str s] (dkS d) R := by
 have hm := mget_enc s.data.toList d.files
 rw [hg] at hm
 refine C_new tOK ?_
 refine C_bodyk tOK Tryz.func25 rfl (Nat.le_of_ble_eq_true rfl) fun K hK => ?_; simp
 repeat (first | (refine T_seqk fun K hK => ?_) | (refine T_reg tOK rfl ?_; simp [hf,hw]) | (refine T_ret ?_; try simp) | (refine T_skip ?_; try simp) | (refine T_blockk fun K hK => ?_) | (with_reducible apply_assumption -exfalso -symm) | (rw [afterRF_ret]; simp [hf,hw]) | (refine T_exit ?_; try simp) | (refine T_cond_t ?_ ?_; · (simp; done)) | (refine T_cond_f ?_ ?_; · (simp; done)) | (rintro _ _ (_ | _) hz9 <;> first | (simp; done) | (simp at hz9; done)) | (refine And.intro ?_ ?_) | (simp only [Post.block_ret, Post.block_exit, Post.block_normal, Post.block_pan, Post.seq_ret, Post.seq_exit, Post.seq_normal, Post.seq_pan]; try simp [hf,hw]) | (refine T_loop (TL_round ?_)) | (refine TL_round ?_) | (refine T_draw tOK tmix [([], 0), ([], 1), ([], 2), ([], 3), ([1, 2, 3], 4), ([0, 1, 2, 3, 4], 5), ([0, 1, 2, 3, 4, 5], 6)] 5 (by decide +kernel) ?_; simp [hf,hw]))
 refine RD_call (rd := [0, 2, 3]) (fun τ hτ => C_have (at_lt ((hτ 2 (by simp)).trans rfl)) (at_lt ((hτ 3 (by simp)).trans rfl)) (at_lt ((hτ 0 (by simp)).trans rfl)) ⟨rfl, rfl⟩) ?_
 simp
 repeat (first | (refine T_seqk fun K hK => ?_) | (refine T_reg tOK rfl ?_; simp [hf,hw,hs,hm]) | (refine T_ret ?_; try simp) | (refine T_skip ?_; try simp) | (refine T_blockk fun K hK => ?_) | (with_reducible apply_assumption -exfalso -symm) | (rw [afterRF_ret]; simp [hf,hw,hs,hm]) | (refine T_exit ?_; try simp) | (refine T_cond_t ?_ ?_; · (simp; done)) | (refine T_cond_f ?_ ?_; · (simp; done)) | (rintro _ _ (_ | _) hz9 <;> first | (simp; done) | (simp at hz9; done)) | (refine And.intro ?_ ?_) | (simp only [Post.block_ret, Post.block_exit, Post.block_normal, Post.block_pan, Post.seq_ret, Post.seq_exit, Post.seq_normal, Post.seq_pan]; try simp [hf,hw,hs,hm]) | (refine T_loop (TL_round ?_)) | (refine TL_round ?_) | (refine T_draw tOK tmix [([], 0), ([], 1), ([], 2), ([], 3), ([1, 2, 3], 4), ([0, 1, 2, 3, 4], 5), ([0, 1, 2, 3, 4, 5], 6)] 5 (by decide +kernel) ?_; simp [hf,hw,hs,hm]) | (refine T_draw tOK tmix [([], 1), ([0], 2), ([0, 1], 3), ([0, 1, 2], 4), ([], 5), ([0, 1, 2, 3, 4], 6), ([0, 1, 2, 3, 4, 5], 7), ([0, 1, 2, 3, 4, 5, 6], 8), ([0, 1, 2, 3, 4, 5, 6], 9), ([], 0), ([0, 1, 2, 3, 4, 5, 6, 7, 9], 10), ([0, 1, 2, 3, 4, 5, 6, 7, 8, 9, 10], 11)] 11 (by decide +kernel) ?_; simp [hf,hw,hs,hm]) | (refine C_bodyk tOK Tryz.func56 rfl (Nat.le_of_ble_eq_true rfl) fun K hK => ?_; simp) | (refine C_bodyk tOK Tryz.func83 rfl (Nat.le_of_ble_eq_true rfl) fun K hK => ?_; simp))
 ·right; simp [allStore, allBlk, allL, allB]
  exact fun a b => encFs_all _ _ (a, b)
 ·simpa [frzT, frzN, burn] using h
theorem C_sync_fail (hs : s.size ≤ maxLen) (hf : (d.fuse == 0) = false) (hw : IntKind.i64.wrap (d.fuse - 1) = d.fuse - 1) {f : Fl} (hg : dget s.data.toList d.files = some f) (hp : decide (0 < d.fail) = true) (hw2 : IntKind.i64.wrap (d.fail - 1) = d.fail - 1)
  (h : R (.ret (i64 41)) (dkS { burn d with fail := d.fail - 1 })) : C tE 25 [.ptr 0 0 0 [], .str s] (dkS d) R := by
 have hm := mget_enc s.data.toList d.files
 rw [hg] at hm
 refine C_new tOK ?_
 refine C_bodyk tOK Tryz.func25 rfl (Nat.le_of_ble_eq_true rfl) fun K hK => ?_; simp
 repeat (first | (refine T_seqk fun K hK => ?_) | (refine T_reg tOK rfl ?_; simp [hf,hw]) | (refine T_ret ?_; try simp) | (refine T_skip ?_; try simp) | (refine T_blockk fun K hK => ?_) | (with_reducible apply_assumption -exfalso -symm) | (rw [afterRF_ret]; simp [hf,hw]) | (refine T_exit ?_; try simp) | (refine T_cond_t ?_ ?_; · (simp; done)) | (refine T_cond_f ?_ ?_; · (simp; done)) | (rintro _ _ (_ | _) hz9 <;> first | (simp; done) | (simp at hz9; done)) | (refine And.intro ?_ ?_) | (simp only [Post.block_ret, Post.block_exit, Post.block_normal, Post.block_pan, Post.seq_ret, Post.seq_exit, Post.seq_normal, Post.seq_pan]; try simp [hf,hw]) | (refine T_loop (TL_round ?_)) | (refine TL_round ?_) | (refine T_draw tOK tmix [([], 0), ([], 1), ([], 2), ([], 3), ([1, 2, 3], 4), ([0, 1, 2, 3, 4], 5), ([0, 1, 2, 3, 4, 5], 6)] 5 (by decide +kernel) ?_; simp [hf,hw]))
 refine RD_call (rd := [0, 2, 3]) (fun τ hτ => C_have (at_lt ((hτ 2 (by simp)).trans rfl)) (at_lt ((hτ 3 (by simp)).trans rfl)) (at_lt ((hτ 0 (by simp)).trans rfl)) ⟨rfl, rfl⟩) ?_
 simp
 repeat (first | (refine T_seqk fun K hK => ?_) | (refine T_reg tOK rfl ?_; simp [hf,hw,hs,hm,encF,hp,hw2]) | (refine T_ret ?_; try simp) | (refine T_skip ?_; try simp) | (refine T_blockk fun K hK => ?_) | (with_reducible apply_assumption -exfalso -symm) | (rw [afterRF_ret]; simp [hf,hw,hs,hm,encF,hp,hw2]) | (refine T_exit ?_; try simp) | (refine T_cond_t ?_ ?_; · (simp; done)) | (refine T_cond_f ?_ ?_; · (simp; done)) | (rintro _ _ (_ | _) hz9 <;> first | (simp; done) | (simp at hz9; done)) | (refine And.intro ?_ ?_) | (simp only [Post.block_ret, Post.block_exit, Post.block_normal, Post.block_pan, Post.seq_ret, Post.seq_exit, Post.seq_normal, Post.seq_pan]; try simp [hf,hw,hs,hm,encF,hp,hw2]) | (refine T_loop (TL_round ?_)) | (refine TL_round ?_) | (refine T_draw tOK tmix [([], 0), ([], 1), ([], 2), ([], 3), ([1, 2, 3], 4), ([0, 1, 2, 3, 4], 5), ([0, 1, 2, 3, 4, 5], 6)] 5 (by decide +kernel) ?_; simp [hf,hw,hs,hm,encF,hp,hw2]) | (refine T_draw tOK tmix [([], 1), ([0], 2), ([0, 1], 3), ([0, 1, 2], 4), ([], 5), ([0, 1, 2, 3, 4], 6), ([0, 1, 2, 3, 4, 5], 7), ([0, 1, 2, 3, 4, 5, 6], 8), ([0, 1, 2, 3, 4, 5, 6], 9), ([], 0), ([0, 1, 2, 3, 4, 5, 6, 7, 9], 10), ([0, 1, 2, 3, 4, 5, 6, 7, 8, 9, 10], 11)] 11 (by decide +kernel) ?_; simp [hf,hw,hs,hm,encF,hp,hw2]) | (refine T_draw tOK tmix [([], 0), ([0], 1), ([0, 1], 2), ([0, 1, 2], 3), ([], 4), ([], 5), ([0, 1, 2, 3, 4, 5], 6)] 6 (by decide +kernel) ?_; simp [hf,hw,hs,hm,encF,hp,hw2]) | (refine C_bodyk tOK Tryz.func56 rfl (Nat.le_of_ble_eq_true rfl) fun K hK => ?_; simp) | (refine C_bodyk tOK Tryz.func83 rfl (Nat.le_of_ble_eq_true rfl) fun K hK => ?_; simp) | (refine C_bodyk tOK Tryz.func58 rfl (Nat.le_of_ble_eq_true rfl) fun K hK => ?_; simp))
 ·right; simp [allStore, allBlk, allL, allB]
  exact fun a b => encFs_all _ _ (a, b)
 ·simpa [frzT, frzN, burn] using h
theorem C_sync_ok (hs : s.size ≤ maxLen) (hl : (encFs d.files).length < 1000000) (hf : (d.fuse == 0) = false) (hw : IntKind.i64.wrap (d.fuse - 1) = d.fuse - 1) {f : Fl} (hg : dget s.data.toList d.files = some f) (hp : decide (0 < d.fail) = false)
  (h : R (.ret (i64 0)) (dkS { burn d with files := dput s.data.toList { f with last := f.b.length } d.files })) : C tE 25 [.ptr 0 0 0 [], .str s] (dkS d) R := by
 have hm := mget_enc s.data.toList d.files
 rw [hg] at hm
 have hq : mput (.string s.data.toList) (.agg 72 [.lit (u8l f.b), .int .i64 f.b.length]) (encFs d.files) = encFs (dput s.data.toList { f with last := f.b.length } d.files) := mput_enc s.data.toList { f with last := f.b.length } d.files
 have hlen : (u8l f.b).length = f.b.length := by simp [u8l]
 refine C_new tOK ?_
 refine C_bodyk tOK Tryz.func25 rfl (Nat.le_of_ble_eq_true rfl) fun K hK => ?_; simp
 repeat (first | (refine T_seqk fun K hK => ?_) | (refine T_reg tOK rfl ?_; simp [hf,hw]) | (refine T_ret ?_; try simp) | (refine T_skip ?_; try simp) | (refine T_blockk fun K hK => ?_) | (with_reducible apply_assumption -exfalso -symm) | (rw [afterRF_ret]; simp [hf,hw]) | (refine T_exit ?_; try simp) | (refine T_cond_t ?_ ?_; · (simp; done)) | (refine T_cond_f ?_ ?_; · (simp; done)) | (rintro _ _ (_ | _) hz9 <;> first | (simp; done) | (simp at hz9; done)) | (refine And.intro ?_ ?_) | (simp only [Post.block_ret, Post.block_exit, Post.block_normal, Post.block_pan, Post.seq_ret, Post.seq_exit, Post.seq_normal, Post.seq_pan]; try simp [hf,hw]) | (refine T_loop (TL_round ?_)) | (refine TL_round ?_) | (refine T_draw tOK tmix [([], 0), ([], 1), ([], 2), ([], 3), ([1, 2, 3], 4), ([0, 1, 2, 3, 4], 5), ([0, 1, 2, 3, 4, 5], 6)] 5 (by decide +kernel) ?_; simp [hf,hw]))
 refine RD_call (rd := [0, 2, 3]) (fun τ hτ => C_have (at_lt ((hτ 2 (by simp)).trans rfl)) (at_lt ((hτ 3 (by simp)).trans rfl)) (at_lt ((hτ 0 (by simp)).trans rfl)) ⟨rfl, rfl⟩) ?_
 simp
 repeat (first | (refine T_seqk fun K hK => ?_) | (refine T_reg tOK rfl ?_; simp [hf,hw,hs,hm,encF,hp,hl,hlen]) | (refine T_ret ?_; try simp) | (refine T_skip ?_; try simp) | (refine T_blockk fun K hK => ?_) | (with_reducible apply_assumption -exfalso -symm) | (rw [afterRF_ret]; simp [hf,hw,hs,hm,encF,hp,hl,hlen]) | (refine T_exit ?_; try simp) | (refine T_cond_t ?_ ?_; · (simp; done)) | (refine T_cond_f ?_ ?_; · (simp; done)) | (rintro _ _ (_ | _) hz9 <;> first | (simp; done) | (simp at hz9; done)) | (refine And.intro ?_ ?_) | (simp only [Post.block_ret, Post.block_exit, Post.block_normal, Post.block_pan, Post.seq_ret, Post.seq_exit, Post.seq_normal, Post.seq_pan]; try simp [hf,hw,hs,hm,encF,hp,hl,hlen]) | (refine T_loop (TL_round ?_)) | (refine TL_round ?_) | (refine T_draw tOK tmix [([], 0), ([], 1), ([], 2), ([], 3), ([1, 2, 3], 4), ([0, 1, 2, 3, 4], 5), ([0, 1, 2, 3, 4, 5], 6)] 5 (by decide +kernel) ?_; simp [hf,hw,hs,hm,encF,hp,hl,hlen]) | (refine T_draw tOK tmix [([], 1), ([0], 2), ([0, 1], 3), ([0, 1, 2], 4), ([], 5), ([0, 1, 2, 3, 4], 6), ([0, 1, 2, 3, 4, 5], 7), ([0, 1, 2, 3, 4, 5, 6], 8), ([0, 1, 2, 3, 4, 5, 6], 9), ([], 0), ([0, 1, 2, 3, 4, 5, 6, 7, 9], 10), ([0, 1, 2, 3, 4, 5, 6, 7, 8, 9, 10], 11)] 11 (by decide +kernel) ?_; simp [hf,hw,hs,hm,encF,hp,hl,hlen]) | (refine T_draw tOK tmix [([], 0), ([0], 1), ([0, 1], 2), ([0, 1, 2], 3), ([], 4), ([], 5), ([0, 1, 2, 3, 4, 5], 6)] 6 (by decide +kernel) ?_; simp [hf,hw,hs,hm,encF,hp,hl,hlen]) | (refine C_bodyk tOK Tryz.func56 rfl (Nat.le_of_ble_eq_true rfl) fun K hK => ?_; simp) | (refine C_bodyk tOK Tryz.func83 rfl (Nat.le_of_ble_eq_true rfl) fun K hK => ?_; simp) | (refine C_bodyk tOK Tryz.func58 rfl (Nat.le_of_ble_eq_true rfl) fun K hK => ?_; simp))
 ·right; rw [hq]; simp [allStore, allBlk, allL, allB]
  exact fun a b => encFs_all _ _ (a, b)
 ·rw [hq]; simpa [frzT, frzN, burn] using h
end
section
variable {R : Re → Store → Prop} {d : Dk} {s : ByteArray}
theorem C_delete_dead (hs : s.size ≤ maxLen) (hf : d.fuse = 0) (h : R (.ret (i64 42)) (dkS d)) : C tE 27 [.ptr 0 0 0 [], .str s] (dkS d) R := by
 refine C_new tOK ?_
 refine C_bodyk tOK Tryz.func27 rfl (Nat.le_of_ble_eq_true rfl) fun K hK => ?_; simp
 repeat (first | (refine T_seqk fun K hK => ?_) | (refine T_reg tOK rfl ?_; simp [hf]) | (refine T_ret ?_; try simp) | (refine T_skip ?_; try simp) | (refine T_blockk fun K hK => ?_) | (with_reducible apply_assumption -exfalso -symm) | (rw [afterRF_ret]; simp [hf]) | (refine T_exit ?_; try simp) | (refine T_cond_t ?_ ?_; · (simp; done)) | (refine T_cond_f ?_ ?_; · (simp; done)) | (rintro _ _ (_ | _) hz9 <;> first | (simp; done) | (simp at hz9; done)) | (refine And.intro ?_ ?_) | (simp only [Post.block_ret, Post.block_exit, Post.block_normal, Post.block_pan, Post.seq_ret, Post.seq_exit, Post.seq_normal, Post.seq_pan]; try simp [hf]) | (refine T_loop (TL_round ?_)) | (refine TL_round ?_) | (refine T_draw tOK tmix [([], 0), ([], 1), ([], 2), ([], 3), ([1, 2, 3], 4), ([0, 1, 2, 3, 4], 5), ([0, 1, 2, 3, 4, 5], 6)] 5 (by decide +kernel) ?_; simp [hf]))
 refine RD_call (rd := [0, 2, 3]) (fun τ hτ => C_have (at_lt ((hτ 2 (by simp)).trans rfl)) (at_lt ((hτ 3 (by simp)).trans rfl)) (at_lt ((hτ 0 (by simp)).trans rfl)) ⟨rfl, rfl⟩) ?_
 simp
 repeat (first | (refine T_seqk fun K hK => ?_) | (refine T_reg tOK rfl ?_; simp [hf]) | (refine T_ret ?_; try simp) | (refine T_skip ?_; try simp) | (refine T_blockk fun K hK => ?_) | (with_reducible apply_assumption -exfalso -symm) | (rw [afterRF_ret]; simp [hf]) | (refine T_exit ?_; try simp) | (refine T_cond_t ?_ ?_; · (simp; done)) | (refine T_cond_f ?_ ?_; · (simp; done)) | (rintro _ _ (_ | _) hz9 <;> first | (simp; done) | (simp at hz9; done)) | (refine And.intro ?_ ?_) | (simp only [Post.block_ret, Post.block_exit, Post.block_normal, Post.block_pan, Post.seq_ret, Post.seq_exit, Post.seq_normal, Post.seq_pan]; try simp [hf]) | (refine T_loop (TL_round ?_)) | (refine TL_round ?_) | (refine T_draw tOK tmix [([], 0), ([], 1), ([], 2), ([], 3), ([1, 2, 3], 4), ([0, 1, 2, 3, 4], 5), ([0, 1, 2, 3, 4, 5], 6)] 5 (by decide +kernel) ?_; simp [hf]) | (refine C_bodyk tOK Tryz.func56 rfl (Nat.le_of_ble_eq_true rfl) fun K hK => ?_; simp))
 ·left; simp [hf]
 ·simpa [frzT, frzN, hf] using h
theorem C_delete_none (hs : s.size ≤ maxLen) (hf : (d.fuse == 0) = false) (hw : IntKind.i64.wrap (d.fuse - 1) = d.fuse - 1) (hg : dget s.data.toList d.files = none) (h : R (.ret (i64 3)) (dkS (burn d))) :
  C tE 27 [.ptr 0 0 0 [], .str s] (dkS d) R := by
 have hm := mget_enc s.data.toList d.files
 rw [hg] at hm
 refine C_new tOK ?_
 refine C_bodyk tOK Tryz.func27 rfl (Nat.le_of_ble_eq_true rfl) fun K hK => ?_; simp
 repeat (first | (refine T_seqk fun K hK => ?_) | (refine T_reg tOK rfl ?_; simp [hf,hw]) | (refine T_ret ?_; try simp) | (refine T_skip ?_; try simp) | (refine T_blockk fun K hK => ?_) | (with_reducible apply_assumption -exfalso -symm) | (rw [afterRF_ret]; simp [hf,hw]) | (refine T_exit ?_; try simp) | (refine T_cond_t ?_ ?_; · (simp; done)) | (refine T_cond_f ?_ ?_; · (simp; done)) | (rintro _ _ (_ | _) hz9 <;> first | (simp; done) | (simp at hz9; done)) | (refine And.intro ?_ ?_) | (simp only [Post.block_ret, Post.block_exit, Post.block_normal, Post.block_pan, Post.seq_ret, Post.seq_exit, Post.seq_normal, Post.seq_pan]; try simp [hf,hw]) | (refine T_loop (TL_round ?_)) | (refine TL_round ?_) | (refine T_draw tOK tmix [([], 0), ([], 1), ([], 2), ([], 3), ([1, 2, 3], 4), ([0, 1, 2, 3, 4], 5), ([0, 1, 2, 3, 4, 5], 6)] 5 (by decide +kernel) ?_; simp [hf,hw]))
 refine RD_call (rd := [0, 2, 3]) (fun τ hτ => C_have (at_lt ((hτ 2 (by simp)).trans rfl)) (at_lt ((hτ 3 (by simp)).trans rfl)) (at_lt ((hτ 0 (by simp)).trans rfl)) ⟨rfl, rfl⟩) ?_
 simp
 repeat (first | (refine T_seqk fun K hK => ?_) | (refine T_reg tOK rfl ?_; simp [hf,hw,hs,hm]) | (refine T_ret ?_; try simp) | (refine T_skip ?_; try simp) | (refine T_blockk fun K hK => ?_) | (with_reducible apply_assumption -exfalso -symm) | (rw [afterRF_ret]; simp [hf,hw,hs,hm]) | (refine T_exit ?_; try simp) | (refine T_cond_t ?_ ?_; · (simp; done)) | (refine T_cond_f ?_ ?_; · (simp; done)) | (rintro _ _ (_ | _) hz9 <;> first | (simp; done) | (simp at hz9; done)) | (refine And.intro ?_ ?_) | (simp only [Post.block_ret, Post.block_exit, Post.block_normal, Post.block_pan, Post.seq_ret, Post.seq_exit, Post.seq_normal, Post.seq_pan]; try simp [hf,hw,hs,hm]) | (refine T_loop (TL_round ?_)) | (refine TL_round ?_) | (refine T_draw tOK tmix [([], 0), ([], 1), ([], 2), ([], 3), ([1, 2, 3], 4), ([0, 1, 2, 3, 4], 5), ([0, 1, 2, 3, 4, 5], 6)] 5 (by decide +kernel) ?_; simp [hf,hw,hs,hm]) | (refine T_draw tOK tmix [([], 1), ([0], 2), ([0, 1], 3), ([0, 1, 2], 4), ([], 5), ([0, 1, 2, 3, 4], 6), ([0, 1, 2, 3, 4, 5], 7), ([0, 1, 2, 3, 4, 5, 6], 8), ([0, 1, 2, 3, 4, 5, 6], 9), ([], 0), ([0, 1, 2, 3, 4, 5, 6, 7, 9], 10), ([0, 1, 2, 3, 4, 5, 6, 7, 8, 9, 10], 11)] 11 (by decide +kernel) ?_; simp [hf,hw,hs,hm]) | (refine C_bodyk tOK Tryz.func56 rfl (Nat.le_of_ble_eq_true rfl) fun K hK => ?_; simp) | (refine C_bodyk tOK Tryz.func83 rfl (Nat.le_of_ble_eq_true rfl) fun K hK => ?_; simp))
 ·right; simp [allStore, allBlk, allL, allB]
  exact fun a b => encFs_all _ _ (a, b)
 ·simpa [frzT, frzN, burn] using h
theorem C_delete_ok (hs : s.size ≤ maxLen) (hf : (d.fuse == 0) = false) (hw : IntKind.i64.wrap (d.fuse - 1) = d.fuse - 1) {f : Fl} (hg : dget s.data.toList d.files = some f)
  (h : R (.ret (i64 0)) (dkS { burn d with files := ddel s.data.toList d.files })) : C tE 27 [.ptr 0 0 0 [], .str s] (dkS d) R := by
 have hm := mget_enc s.data.toList d.files
 rw [hg] at hm
 have hq := mdel_enc s.data.toList d.files
 refine C_new tOK ?_
 refine C_bodyk tOK Tryz.func27 rfl (Nat.le_of_ble_eq_true rfl) fun K hK => ?_; simp
 repeat (first | (refine T_seqk fun K hK => ?_) | (refine T_reg tOK rfl ?_; simp [hf,hw]) | (refine T_ret ?_; try simp) | (refine T_skip ?_; try simp) | (refine T_blockk fun K hK => ?_) | (with_reducible apply_assumption -exfalso -symm) | (rw [afterRF_ret]; simp [hf,hw]) | (refine T_exit ?_; try simp) | (refine T_cond_t ?_ ?_; · (simp; done)) | (refine T_cond_f ?_ ?_; · (simp; done)) | (rintro _ _ (_ | _) hz9 <;> first | (simp; done) | (simp at hz9; done)) | (refine And.intro ?_ ?_) | (simp only [Post.block_ret, Post.block_exit, Post.block_normal, Post.block_pan, Post.seq_ret, Post.seq_exit, Post.seq_normal, Post.seq_pan]; try simp [hf,hw]) | (refine T_loop (TL_round ?_)) | (refine TL_round ?_) | (refine T_draw tOK tmix [([], 0), ([], 1), ([], 2), ([], 3), ([1, 2, 3], 4), ([0, 1, 2, 3, 4], 5), ([0, 1, 2, 3, 4, 5], 6)] 5 (by decide +kernel) ?_; simp [hf,hw]))
 refine RD_call (rd := [0, 2, 3]) (fun τ hτ => C_have (at_lt ((hτ 2 (by simp)).trans rfl)) (at_lt ((hτ 3 (by simp)).trans rfl)) (at_lt ((hτ 0 (by simp)).trans rfl)) ⟨rfl, rfl⟩) ?_
 simp
 repeat (first | (refine T_seqk fun K hK => ?_) | (refine T_reg tOK rfl ?_; simp [hf,hw,hs,hm,encF,hq]) | (refine T_ret ?_; try simp) | (refine T_skip ?_; try simp) | (refine T_blockk fun K hK => ?_) | (with_reducible apply_assumption -exfalso -symm) | (rw [afterRF_ret]; simp [hf,hw,hs,hm,encF,hq]) | (refine T_exit ?_; try simp) | (refine T_cond_t ?_ ?_; · (simp; done)) | (refine T_cond_f ?_ ?_; · (simp; done)) | (rintro _ _ (_ | _) hz9 <;> first | (simp; done) | (simp at hz9; done)) | (refine And.intro ?_ ?_) | (simp only [Post.block_ret, Post.block_exit, Post.block_normal, Post.block_pan, Post.seq_ret, Post.seq_exit, Post.seq_normal, Post.seq_pan]; try simp [hf,hw,hs,hm,encF,hq]) | (refine T_loop (TL_round ?_)) | (refine TL_round ?_) | (refine T_draw tOK tmix [([], 0), ([], 1), ([], 2), ([], 3), ([1, 2, 3], 4), ([0, 1, 2, 3, 4], 5), ([0, 1, 2, 3, 4, 5], 6)] 5 (by decide +kernel) ?_; simp [hf,hw,hs,hm,encF,hq]) | (refine T_draw tOK tmix [([], 1), ([0], 2), ([0, 1], 3), ([0, 1, 2], 4), ([], 5), ([0, 1, 2, 3, 4], 6), ([0, 1, 2, 3, 4, 5], 7), ([0, 1, 2, 3, 4, 5, 6], 8), ([0, 1, 2, 3, 4, 5, 6], 9), ([], 0), ([0, 1, 2, 3, 4, 5, 6, 7, 9], 10), ([0, 1, 2, 3, 4, 5, 6, 7, 8, 9, 10], 11)] 11 (by decide +kernel) ?_; simp [hf,hw,hs,hm,encF,hq]) | (refine T_draw tOK tmix [([], 0), ([0], 1), ([0, 1], 2), ([0, 1, 2], 3), ([], 4), ([0, 1, 2, 3, 4], 5)] 5 (by decide +kernel) ?_; simp [hf,hw,hs,hm,encF,hq]) | (refine C_bodyk tOK Tryz.func56 rfl (Nat.le_of_ble_eq_true rfl) fun K hK => ?_; simp) | (refine C_bodyk tOK Tryz.func83 rfl (Nat.le_of_ble_eq_true rfl) fun K hK => ?_; simp) | (refine C_bodyk tOK Tryz.func62 rfl (Nat.le_of_ble_eq_true rfl) fun K hK => ?_; simp))
 ·right; simp [allStore, allBlk, allL, allB]
  exact fun a b => encFs_all _ _ (a, b)
 ·simpa [frzT, frzN, burn] using h
end
section
variable {R : Re → Store → Prop} {d : Dk} {s t : ByteArray}
theorem C_rename_dead (hf : d.fuse = 0) (h : R (.ret (i64 42)) (dkS d)) : C tE 26 [.ptr 0 0 0 [], .str s, .str t] (dkS d) R := by
 refine C_new tOK ?_
 refine C_bodyk tOK Tryz.func26 rfl (Nat.le_of_ble_eq_true rfl) fun K hK => ?_; simp
 repeat (first | (refine T_seqk fun K hK => ?_) | (refine T_reg tOK rfl ?_; simp [hf]) | (refine T_ret ?_; try simp) | (refine T_skip ?_; try simp) | (refine T_blockk fun K hK => ?_) | (with_reducible apply_assumption -exfalso -symm) | (rw [afterRF_ret]; simp [hf]) | (refine T_exit ?_; try simp) | (refine T_cond_t ?_ ?_; · (simp; done)) | (refine T_cond_f ?_ ?_; · (simp; done)) | (rintro _ _ (_ | _) hz9 <;> first | (simp; done) | (simp at hz9; done)) | (refine And.intro ?_ ?_) | (simp only [Post.block_ret, Post.block_exit, Post.block_normal, Post.block_pan, Post.seq_ret, Post.seq_exit, Post.seq_normal, Post.seq_pan]; try simp [hf]) | (refine T_loop (TL_round ?_)) | (refine TL_round ?_) | (refine C_bodyk tOK Tryz.func56 rfl (Nat.le_of_ble_eq_true rfl) fun K hK => ?_; simp))
 ·left; simp [hf]
 ·simpa [frzT, frzN, hf] using h
theorem C_rename_arg (hf : (d.fuse == 0) = false) (hw : IntKind.i64.wrap (d.fuse - 1) = d.fuse - 1) (hn : named t = false) (h : R (.ret (i64 1)) (dkS (burn d))) : C tE 26 [.ptr 0 0 0 [], .str s, .str t] (dkS d) R := by
 refine C_new tOK ?_
 refine C_bodyk tOK Tryz.func26 rfl (Nat.le_of_ble_eq_true rfl) fun K hK => ?_; simp
 repeat (first | (refine T_seqk fun K hK => ?_) | (refine T_reg tOK rfl ?_; simp [hf,hw,hn]) | (refine T_ret ?_; try simp) | (refine T_skip ?_; try simp) | (refine T_blockk fun K hK => ?_) | (with_reducible apply_assumption -exfalso -symm) | (rw [afterRF_ret]; simp [hf,hw,hn]) | (refine T_exit ?_; try simp) | (refine T_cond_t ?_ ?_; · (simp; done)) | (refine T_cond_f ?_ ?_; · (simp; done)) | (rintro _ _ (_ | _) hz9 <;> first | (simp; done) | (simp at hz9; done)) | (refine And.intro ?_ ?_) | (simp only [Post.block_ret, Post.block_exit, Post.block_normal, Post.block_pan, Post.seq_ret, Post.seq_exit, Post.seq_normal, Post.seq_pan]; try simp [hf,hw,hn]) | (refine T_loop (TL_round ?_)) | (refine TL_round ?_) | (refine C_named ?_; simp [hf,hw,hn]) | (refine C_bodyk tOK Tryz.func56 rfl (Nat.le_of_ble_eq_true rfl) fun K hK => ?_; simp) | (refine C_bodyk tOK Tryz.func59 rfl (Nat.le_of_ble_eq_true rfl) fun K hK => ?_; simp))
 ·right; simp [allStore, allBlk, allL, allB]
  exact fun a b => encFs_all _ _ (a, b)
 ·simpa [frzT, frzN, burn] using h
theorem C_rename_none (hs : s.size ≤ maxLen) (hf : (d.fuse == 0) = false) (hw : IntKind.i64.wrap (d.fuse - 1) = d.fuse - 1) (hn : named t = true) (hg : dget s.data.toList d.files = none) (h : R (.ret (i64 3)) (dkS (burn d))) :
  C tE 26 [.ptr 0 0 0 [], .str s, .str t] (dkS d) R := by
 have hm := mget_enc s.data.toList d.files
 rw [hg] at hm
 refine C_new tOK ?_
 refine C_bodyk tOK Tryz.func26 rfl (Nat.le_of_ble_eq_true rfl) fun K hK => ?_; simp
 repeat (first | (refine T_seqk fun K hK => ?_) | (refine T_reg tOK rfl ?_; simp [hf,hw,hn,hs,hm]) | (refine T_ret ?_; try simp) | (refine T_skip ?_; try simp) | (refine T_blockk fun K hK => ?_) | (with_reducible apply_assumption -exfalso -symm) | (rw [afterRF_ret]; simp [hf,hw,hn,hs,hm]) | (refine T_exit ?_; try simp) | (refine T_cond_t ?_ ?_; · (simp; done)) | (refine T_cond_f ?_ ?_; · (simp; done)) | (rintro _ _ (_ | _) hz9 <;> first | (simp; done) | (simp at hz9; done)) | (refine And.intro ?_ ?_) | (simp only [Post.block_ret, Post.block_exit, Post.block_normal, Post.block_pan, Post.seq_ret, Post.seq_exit, Post.seq_normal, Post.seq_pan]; try simp [hf,hw,hn,hs,hm]) | (refine T_loop (TL_round ?_)) | (refine TL_round ?_) | (refine T_draw tOK tmix [([], 1), ([0], 2), ([0, 1], 3), ([0, 1, 2], 4), ([], 5), ([0, 1, 2, 3, 4], 6), ([0, 1, 2, 3, 4, 5], 7), ([0, 1, 2, 3, 4, 5, 6], 8), ([0, 1, 2, 3, 4, 5, 6], 9), ([], 0), ([0, 1, 2, 3, 4, 5, 6, 7, 9], 10), ([0, 1, 2, 3, 4, 5, 6, 7, 8, 9, 10], 11)] 11 (by decide +kernel) ?_; simp [hf,hw,hn,hs,hm]) | (refine C_named ?_; simp [hf,hw,hn,hs,hm]) | (refine C_bodyk tOK Tryz.func56 rfl (Nat.le_of_ble_eq_true rfl) fun K hK => ?_; simp) | (refine C_bodyk tOK Tryz.func59 rfl (Nat.le_of_ble_eq_true rfl) fun K hK => ?_; simp) | (refine C_bodyk tOK Tryz.func57 rfl (Nat.le_of_ble_eq_true rfl) fun K hK => ?_; simp) | (refine C_bodyk tOK Tryz.func83 rfl (Nat.le_of_ble_eq_true rfl) fun K hK => ?_; simp))
 ·right; simp [allStore, allBlk, allL, allB]
  exact fun a b => encFs_all _ _ (a, b)
 ·simpa [frzT, frzN, burn] using h
theorem C_rename_ok (hs : s.size ≤ maxLen) (ht : t.size ≤ maxLen) (hl : (encFs (ddel s.data.toList d.files)).length < 1000000) (hf : (d.fuse == 0) = false) (hw : IntKind.i64.wrap (d.fuse - 1) = d.fuse - 1) (hn : named t = true) {f : Fl} (hg : dget s.data.toList d.files = some f)
  (h : R (.ret (i64 0)) (dkS { burn d with files := dput t.data.toList f (ddel s.data.toList d.files) })) : C tE 26 [.ptr 0 0 0 [], .str s, .str t] (dkS d) R := by
 have hm := mget_enc s.data.toList d.files
 rw [hg] at hm
 have hq := mdel_enc s.data.toList d.files
 have hp : mput (.string t.data.toList) (.agg 72 [.lit (u8l f.b), i64 f.last]) (encFs (ddel s.data.toList d.files)) = encFs (dput t.data.toList f (ddel s.data.toList d.files)) := mput_enc t.data.toList f (ddel s.data.toList d.files)
 refine C_new tOK ?_
 refine C_bodyk tOK Tryz.func26 rfl (Nat.le_of_ble_eq_true rfl) fun K hK => ?_; simp
 repeat (first | (refine T_seqk fun K hK => ?_) | (refine T_reg tOK rfl ?_; simp [hf,hw,hn,hs,ht,hl,hm,hq,encF]) | (refine T_ret ?_; try simp) | (refine T_skip ?_; try simp) | (refine T_blockk fun K hK => ?_) | (with_reducible apply_assumption -exfalso -symm) | (rw [afterRF_ret]; simp [hf,hw,hn,hs,ht,hl,hm,hq,encF]) | (refine T_exit ?_; try simp) | (refine T_cond_t ?_ ?_; · (simp; done)) | (refine T_cond_f ?_ ?_; · (simp; done)) | (rintro _ _ (_ | _) hz9 <;> first | (simp; done) | (simp at hz9; done)) | (refine And.intro ?_ ?_) | (simp only [Post.block_ret, Post.block_exit, Post.block_normal, Post.block_pan, Post.seq_ret, Post.seq_exit, Post.seq_normal, Post.seq_pan]; try simp [hf,hw,hn,hs,ht,hl,hm,hq,encF]) | (refine T_loop (TL_round ?_)) | (refine TL_round ?_) | (refine T_draw tOK tmix [([], 1), ([0], 2), ([0, 1], 3), ([0, 1, 2], 4), ([], 5), ([0, 1, 2, 3, 4], 6), ([0, 1, 2, 3, 4, 5], 7), ([0, 1, 2, 3, 4, 5, 6], 8), ([0, 1, 2, 3, 4, 5, 6], 9), ([], 0), ([0, 1, 2, 3, 4, 5, 6, 7, 9], 10), ([0, 1, 2, 3, 4, 5, 6, 7, 8, 9, 10], 11)] 11 (by decide +kernel) ?_; simp [hf,hw,hn,hs,ht,hl,hm,hq,encF]) | (refine T_draw tOK tmix [([], 0), ([0], 1), ([0, 1], 2), ([0, 1, 2], 3), ([], 4), ([0, 1, 2, 3, 4], 5)] 5 (by decide +kernel) ?_; simp [hf,hw,hn,hs,ht,hl,hm,hq,encF]) | (refine T_draw tOK tmix [([], 0), ([0], 1), ([0, 1], 2), ([0, 1, 2], 3), ([], 4), ([], 5), ([0, 1, 2, 3, 4, 5], 6)] 6 (by decide +kernel) ?_; simp [hf,hw,hn,hs,ht,hl,hm,hq,encF]) | (refine C_named ?_; simp [hf,hw,hn,hs,ht,hl,hm,hq,encF]) | (refine C_bodyk tOK Tryz.func56 rfl (Nat.le_of_ble_eq_true rfl) fun K hK => ?_; simp) | (refine C_bodyk tOK Tryz.func59 rfl (Nat.le_of_ble_eq_true rfl) fun K hK => ?_; simp) | (refine C_bodyk tOK Tryz.func57 rfl (Nat.le_of_ble_eq_true rfl) fun K hK => ?_; simp) | (refine C_bodyk tOK Tryz.func83 rfl (Nat.le_of_ble_eq_true rfl) fun K hK => ?_; simp) | (refine C_bodyk tOK Tryz.func61 rfl (Nat.le_of_ble_eq_true rfl) fun K hK => ?_; simp))
 ·right; rw [hp]; simp [allStore, allBlk, allL, allB]
  exact fun a b => encFs_all _ _ (a, b)
 ·rw [hp]; simpa [frzT, frzN, burn] using h
theorem C_new_ok {σ : Store} {n : Int} (h0 : decide (n < 0) = false) (h1 : decide (1048576 < n) = false)
  (h : R (.ret (.ptr (σ.length + 1) 0 0 [])) (σ ++ [some (.mp 9 []), some (.cells 54 0 [.agg 54 [i64 n, .map σ.length, i64 (-1), i64 0]])])) : C tE 5 [i64 n] σ R := by
 refine C_bodyk tOK Tryz.func5 rfl (Nat.le_of_ble_eq_true rfl) fun K hK => ?_; simp
 repeat (first | (refine T_seqk fun K hK => ?_) | (refine T_reg tOK rfl ?_; simp [h0,h1,sBuild]) | (refine T_ret ?_; try simp) | (refine T_skip ?_; try simp) | (refine T_blockk fun K hK => ?_) | (with_reducible apply_assumption -exfalso -symm) | (rw [afterRF_ret]; simp [h0,h1,sBuild]) | (refine T_exit ?_; try simp) | (refine T_cond_t ?_ ?_; · (simp; done)) | (refine T_cond_f ?_ ?_; · (simp; done)) | (rintro _ _ (_ | _) hz9 <;> first | (simp; done) | (simp at hz9; done)) | (refine And.intro ?_ ?_) | (simp only [Post.block_ret, Post.block_exit, Post.block_normal, Post.block_pan, Post.seq_ret, Post.seq_exit, Post.seq_normal, Post.seq_pan]; try simp [h0,h1,sBuild]) | (refine T_loop (TL_round ?_)) | (refine TL_round ?_))
end
end Go.Proofs.YtdplbgfokoajjaaGreat
end
section
set_option linter.unusedVariables false
set_option linter.unusedSimpArgs false
set_option maxRecDepth 20000
namespace Go.Proofs.YtdplbgfokoajjaaGreat
open Go
def dkBj (d : Dk) (j : Nat) : Blk := .cells 54 0 [.agg 54 [i64 d.room, .map j, i64 d.fuse, i64 d.fail]]
def dkM (d : Dk) : Blk := .mp 9 (encFs d.files)
structure DkAt (σ : Store) (i j : Nat) (d : Dk) : Prop where
 ne : i ≠ j
 st : σ[i]? = some (some (dkBj d j))
 mp : σ[j]? = some (some (dkM d))
def dkPut (σ : Store) (i j : Nat) (d : Dk) : Store := (σ.set i (some (dkBj d j))).set j (some (dkM d))
theorem set_self_of {α : Type} {l : List α} {i : Nat} {x : α} (h : l[i]? = some x) : l.set i x = l := by
 have hl := getElem?_lt h
 rw [List.getElem?_eq_getElem hl, Option.some.injEq] at h
 rw [← h, List.set_getElem_self]
theorem DkAt.put_self {σ : Store} {i j : Nat} {d : Dk} (h : DkAt σ i j d) : dkPut σ i j d = σ := by
 unfold dkPut
 rw [set_self_of h.st, set_self_of h.mp]
theorem DkAt.put {σ : Store} {i j : Nat} {d : Dk} (h : DkAt σ i j d) (d' : Dk) : DkAt (dkPut σ i j d') i j d' := by
 have h1 := getElem?_lt h.st
 have h2 := getElem?_lt h.mp
 refine ⟨h.ne, ?_, ?_⟩
 ·unfold dkPut
  rw [List.getElem?_set_ne h.ne.symm, List.getElem?_set_self h1]
 ·unfold dkPut
  rw [List.getElem?_set_self (by simpa using h2)]
theorem dkPut_put (σ : Store) {i j : Nat} (hne : i ≠ j) (d d' : Dk) : dkPut (dkPut σ i j d) i j d' = dkPut σ i j d' := by
 unfold dkPut
 rw [List.set_comm _ _ hne.symm, List.set_set, List.set_set]
theorem dkPut_len (σ : Store) (i j : Nat) (d : Dk) : (dkPut σ i j d).length = σ.length := by simp [dkPut]
theorem dkPut_other (σ : Store) {i j k : Nat} (d : Dk) (h1 : i ≠ k) (h2 : j ≠ k) : (dkPut σ i j d)[k]? = σ[k]? := by
 unfold dkPut
 rw [List.getElem?_set_ne h2, List.getElem?_set_ne h1]
theorem ren_encFs (r : Nat → Nat) (l : List (List UInt8 × Fl)) : renBlk r (.mp 9 (encFs l)) = .mp 9 (encFs l) := by
 simp only [renBlk, encFs, List.map_map]
 congr 1
theorem dkS_all (d : Dk) : allStore (fun b => decide (b < 2)) (dkS d) = true := by
 simp [dkS, dkB, allStore, allBlk, allL, allB]
 exact fun a b => encFs_all _ _ (a, b)
section
variable {R : Re → Store → Prop} {σ : Store} {d d' : Dk} {i j f : Nat} {args : List PV} {v : PV}
theorem C_at (h0 : DkAt σ i j d) (hargs : allL (fun b => decide (b < 2)) args = true) (hspec : ∀ R : Re → Store → Prop, R (.ret v) (dkS d') → C tE f args (dkS d) R)
  (hv : ∀ τ, frz τ 6 v = some v) (h : R (.ret v) (dkPut σ i j d')) : C tE f (renL (nth [i, j]) args) σ R := by
 refine C_own (σ0 := dkS d) tOK [i, j] (by simp [h0.ne]) rfl hargs (dkS_all d) (fun k hk => ?_) ?_
 ·have hk : k = 0 ∨ k = 1 := by simp at hk; omega
  rcases hk with rfl | rfl
  ·simp [nth, renStore, dkS, dkB, renBlk, renL, ren, h0.st, dkBj]
  ·simp only [nth, renStore, dkS]
   simp [h0.mp, dkM, ren_encFs]
 ·refine hspec _ ?_
  unfold ownRe
  refine ⟨by rw [show (dkS d').take [i, j].length = dkS d' from rfl]; exact dkS_all d', ?_⟩
  simp only [hv]
  have : putAll σ [i, j] (renStore (nth [i, j]) ((dkS d').take [i, j].length)) = dkPut σ i j d' := by
   rw [show (dkS d').take [i, j].length = dkS d' from rfl]
   simp only [dkS, renStore, List.map_cons, List.map_nil, Option.map_some, ren_encFs, putAll, dkPut, dkM]
   simp [renBlk, dkB, renL, ren, nth, dkBj]
  rw [this]; exact h
theorem C_at0 (h0 : DkAt σ i j d) (hargs : allL (fun b => decide (b < 2)) args = true) (hspec : ∀ R : Re → Store → Prop, R (.ret v) (dkS d) → C tE f args (dkS d) R)
  (hv : ∀ τ, frz τ 6 v = some v) (h : R (.ret v) σ) : C tE f (renL (nth [i, j]) args) σ R := C_at h0 hargs hspec hv (by rw [h0.put_self]; exact h)
theorem C_weak {args' : List PV} (hw : ∀ c vs, VL tE c args vs → VL tE c args' vs) (h : C tE f args' σ R) : C tE f args σ R := fun cx vs hn hv => h cx vs hn (hw cx _ hv)
theorem V.nils_lit {c : Cx} {v : Value} (h : V tE c .nils v) : V tE c (.lit []) v := by
 obtain ⟨a, rfl⟩ := h.nils_inv
 exact V_one (.lit0 _ _) (by simp)
theorem C_used_at (h0 : DkAt σ i j d) (hl : used d.files < 1000000000) (h : R (.ret (i64 (used d.files))) σ) : C tE 18 [.ptr i 0 0 []] σ R :=
 C_at0 (args := [.ptr 0 0 0 []]) h0 (by simp [allL, allB]) (fun R h => C_used hl h) (fun τ => rfl) h
end
end Go.Proofs.YtdplbgfokoajjaaGreat
end
section
set_option linter.unusedVariables false
set_option linter.unusedSimpArgs false
set_option maxRecDepth 20000
namespace Go.Proofs.YtdplbgfokoajjaaGreat
open Go
attribute [local simp] RF_nil RF_cons afterRF_ret nilCmp sop sGuard isCall sCallee Fr.eval Fr.get Fr.put ofConst sLoad sStore sBuiltin Fr.args bodyQ sRes oneOf sBin sInt sUn
attribute [local simp] RD_nil RD_cons noConf clear accAdd Tab.pr Tab.slot foot wid idOf refId Op.operands Call.operands sFieldAddr sNilCheck sLookup keyLit sMapSet sMapDel sLen Store.at Store.new getP setP typeAt fits evalParts sBuildSlice sFill sList sApp sAppend frzRe frz pureB pureL
attribute [local simp] dkB dkS u8s
section
variable {R : Re → Store → Prop} {d : Dk} {s : ByteArray} {b : List UInt8}
theorem C_write_dead (hf : d.fuse = 0) (h : R (.ret (i64 42)) (dkS d)) : C tE 30 [.ptr 0 0 0 [], .str s, u8s b] (dkS d) R := by
 refine C_new tOK ?_
 refine C_bodyk tOK Tryz.func30 rfl (Nat.le_of_ble_eq_true rfl) fun K hK => ?_; simp
 repeat (first | (refine T_seqk fun K hK => ?_) | (refine T_reg tOK rfl ?_; simp [hf]) | (refine T_ret ?_; try simp) | (refine T_skip ?_; try simp) | (refine T_blockk fun K hK => ?_) | (with_reducible apply_assumption -exfalso -symm) | (rw [afterRF_ret]; simp [hf]) | (refine T_exit ?_; try simp) | (refine T_cond_t ?_ ?_; · (simp; done)) | (refine T_cond_f ?_ ?_; · (simp; done)) | (rintro _ _ (_ | _) hz9 <;> first | (simp; done) | (simp at hz9; done)) | (refine And.intro ?_ ?_) | (simp only [Post.block_ret, Post.block_exit, Post.block_normal, Post.block_pan, Post.seq_ret, Post.seq_exit, Post.seq_normal, Post.seq_pan]; try simp [hf]) | (refine T_loop (TL_round ?_)) | (refine TL_round ?_) | (refine C_bodyk tOK Tryz.func56 rfl (Nat.le_of_ble_eq_true rfl) fun K hK => ?_; simp))
 ·left; simp [hf]
 ·simpa [frzT, frzN, hf] using h
theorem C_write_arg (hs : s.size ≤ maxLen) (hf : (d.fuse == 0) = false) (hw : IntKind.i64.wrap (d.fuse - 1) = d.fuse - 1) (hn : named s = false) (h : R (.ret (i64 1)) (dkS (burn d))) :
  C tE 30 [.ptr 0 0 0 [], .str s, u8s b] (dkS d) R := by
 have hm := mget_enc s.data.toList d.files
 refine C_new tOK ?_
 cases hg : dget s.data.toList d.files with
 | none =>
  rw [hg] at hm
  refine C_bodyk tOK Tryz.func30 rfl (Nat.le_of_ble_eq_true rfl) fun K hK => ?_; simp
  repeat (first | (refine T_seqk fun K hK => ?_) | (refine T_reg tOK rfl ?_; simp [hf,hw,hn,hs,hm]) | (refine T_ret ?_; try simp) | (refine T_skip ?_; try simp) | (refine T_blockk fun K hK => ?_) | (with_reducible apply_assumption -exfalso -symm) | (rw [afterRF_ret]; simp [hf,hw,hn,hs,hm]) | (refine T_exit ?_; try simp) | (refine T_cond_t ?_ ?_; · (simp; done)) | (refine T_cond_f ?_ ?_; · (simp; done)) | (rintro _ _ (_ | _) hz9 <;> first | (simp; done) | (simp at hz9; done)) | (refine And.intro ?_ ?_) | (simp only [Post.block_ret, Post.block_exit, Post.block_normal, Post.block_pan, Post.seq_ret, Post.seq_exit, Post.seq_normal, Post.seq_pan]; try simp [hf,hw,hn,hs,hm]) | (refine T_loop (TL_round ?_)) | (refine TL_round ?_) | (refine T_draw tOK tmix [([], 1), ([0], 2), ([0, 1], 3), ([0, 1, 2], 4), ([], 5), ([0, 1, 2, 3, 4], 6), ([0, 1, 2, 3, 4, 5], 7), ([0, 1, 2, 3, 4, 5, 6], 8), ([0, 1, 2, 3, 4, 5, 6], 9), ([], 0), ([0, 1, 2, 3, 4, 5, 6, 7, 9], 10), ([0, 1, 2, 3, 4, 5, 6, 7, 8, 9, 10], 11)] 11 (by decide +kernel) ?_; simp [hf,hw,hn,hs,hm]) | (refine T_draw tOK tmix [([], 0), ([0], 1), ([], 2), ([2], 3), ([2, 3], 4), ([2, 3, 4], 5), ([], 6), ([6], 7), ([2, 3, 4, 5, 6, 7], 8), ([0, 1, 2, 3, 4, 5, 6, 7, 8], 9), ([0, 1, 2, 3, 4, 5, 6, 7, 8, 9], 10)] 9 (by decide +kernel) ?_; simp [hf,hw,hn,hs,hm]) | (refine T_draw tOK tmix [([], 0), ([0], 1), ([0, 1], 2), ([0, 1, 2], 3), ([], 4), ([], 5), ([0, 1, 2, 3, 4, 5], 6)] 6 (by decide +kernel) ?_; simp [hf,hw,hn,hs,hm]) | (refine C_named ?_; simp [hf,hw,hn,hs,hm]) | (refine C_bodyk tOK Tryz.func56 rfl (Nat.le_of_ble_eq_true rfl) fun K hK => ?_; simp) | (refine C_bodyk tOK Tryz.func63 rfl (Nat.le_of_ble_eq_true rfl) fun K hK => ?_; simp))
  ·right; simp [allStore, allBlk, allL, allB]
   exact fun a b => encFs_all _ _ (a, b)
  ·simpa [frzT, frzN, burn] using h
 | some f =>
  rw [hg] at hm
  refine C_bodyk tOK Tryz.func30 rfl (Nat.le_of_ble_eq_true rfl) fun K hK => ?_; simp
  repeat (first | (refine T_seqk fun K hK => ?_) | (refine T_reg tOK rfl ?_; simp [hf,hw,hn,hs,hm,encF]) | (refine T_ret ?_; try simp) | (refine T_skip ?_; try simp) | (refine T_blockk fun K hK => ?_) | (with_reducible apply_assumption -exfalso -symm) | (rw [afterRF_ret]; simp [hf,hw,hn,hs,hm,encF]) | (refine T_exit ?_; try simp) | (refine T_cond_t ?_ ?_; · (simp; done)) | (refine T_cond_f ?_ ?_; · (simp; done)) | (rintro _ _ (_ | _) hz9 <;> first | (simp; done) | (simp at hz9; done)) | (refine And.intro ?_ ?_) | (simp only [Post.block_ret, Post.block_exit, Post.block_normal, Post.block_pan, Post.seq_ret, Post.seq_exit, Post.seq_normal, Post.seq_pan]; try simp [hf,hw,hn,hs,hm,encF]) | (refine T_loop (TL_round ?_)) | (refine TL_round ?_) | (refine T_draw tOK tmix [([], 1), ([0], 2), ([0, 1], 3), ([0, 1, 2], 4), ([], 5), ([0, 1, 2, 3, 4], 6), ([0, 1, 2, 3, 4, 5], 7), ([0, 1, 2, 3, 4, 5, 6], 8), ([0, 1, 2, 3, 4, 5, 6], 9), ([], 0), ([0, 1, 2, 3, 4, 5, 6, 7, 9], 10), ([0, 1, 2, 3, 4, 5, 6, 7, 8, 9, 10], 11)] 11 (by decide +kernel) ?_; simp [hf,hw,hn,hs,hm,encF]) | (refine T_draw tOK tmix [([], 0), ([0], 1), ([], 2), ([2], 3), ([2, 3], 4), ([2, 3, 4], 5), ([], 6), ([6], 7), ([2, 3, 4, 5, 6, 7], 8), ([0, 1, 2, 3, 4, 5, 6, 7, 8], 9), ([0, 1, 2, 3, 4, 5, 6, 7, 8, 9], 10)] 9 (by decide +kernel) ?_; simp [hf,hw,hn,hs,hm,encF]) | (refine T_draw tOK tmix [([], 0), ([0], 1), ([0, 1], 2), ([0, 1, 2], 3), ([], 4), ([], 5), ([0, 1, 2, 3, 4, 5], 6)] 6 (by decide +kernel) ?_; simp [hf,hw,hn,hs,hm,encF]) | (refine C_named ?_; simp [hf,hw,hn,hs,hm,encF]) | (refine C_bodyk tOK Tryz.func56 rfl (Nat.le_of_ble_eq_true rfl) fun K hK => ?_; simp) | (refine C_bodyk tOK Tryz.func63 rfl (Nat.le_of_ble_eq_true rfl) fun K hK => ?_; simp))
  ·right; simp [allStore, allBlk, allL, allB]
   exact fun a b => encFs_all _ _ (a, b)
  ·simpa [frzT, frzN, burn] using h
theorem C_write_full0 (hs : s.size ≤ maxLen) (hf : (d.fuse == 0) = false) (hw : IntKind.i64.wrap (d.fuse - 1) = d.fuse - 1) (hn : named s = true) (hg : dget s.data.toList d.files = none) (hc : 64 ≤ (encFs d.files).length) (h : R (.ret (i64 5)) (dkS (burn d))) :
  C tE 30 [.ptr 0 0 0 [], .str s, u8s b] (dkS d) R := by
 have hm := mget_enc s.data.toList d.files
 rw [hg] at hm
 have hc' : decide (64 ≤ ((encFs d.files).length : Int)) = true := by rw [decide_eq_true_eq]; omega
 refine C_new tOK ?_
 refine C_bodyk tOK Tryz.func30 rfl (Nat.le_of_ble_eq_true rfl) fun K hK => ?_; simp
 repeat (first | (refine T_seqk fun K hK => ?_) | (refine T_reg tOK rfl ?_; simp [hf,hw,hn,hs,hm,hc']) | (refine T_ret ?_; try simp) | (refine T_skip ?_; try simp) | (refine T_blockk fun K hK => ?_) | (with_reducible apply_assumption -exfalso -symm) | (rw [afterRF_ret]; simp [hf,hw,hn,hs,hm,hc']) | (refine T_exit ?_; try simp) | (refine T_cond_t ?_ ?_; · (simp; done)) | (refine T_cond_f ?_ ?_; · (simp; done)) | (rintro _ _ (_ | _) hz9 <;> first | (simp; done) | (simp at hz9; done)) | (refine And.intro ?_ ?_) | (simp only [Post.block_ret, Post.block_exit, Post.block_normal, Post.block_pan, Post.seq_ret, Post.seq_exit, Post.seq_normal, Post.seq_pan]; try simp [hf,hw,hn,hs,hm,hc']) | (refine T_loop (TL_round ?_)) | (refine TL_round ?_) | (refine T_draw tOK tmix [([], 1), ([0], 2), ([0, 1], 3), ([0, 1, 2], 4), ([], 5), ([0, 1, 2, 3, 4], 6), ([0, 1, 2, 3, 4, 5], 7), ([0, 1, 2, 3, 4, 5, 6], 8), ([0, 1, 2, 3, 4, 5, 6], 9), ([], 0), ([0, 1, 2, 3, 4, 5, 6, 7, 9], 10), ([0, 1, 2, 3, 4, 5, 6, 7, 8, 9, 10], 11)] 11 (by decide +kernel) ?_; simp [hf,hw,hn,hs,hm,hc']) | (refine T_draw tOK tmix [([], 0), ([0], 1), ([], 2), ([2], 3), ([2, 3], 4), ([2, 3, 4], 5), ([], 6), ([6], 7), ([2, 3, 4, 5, 6, 7], 8), ([0, 1, 2, 3, 4, 5, 6, 7, 8], 9), ([0, 1, 2, 3, 4, 5, 6, 7, 8, 9], 10)] 9 (by decide +kernel) ?_; simp [hf,hw,hn,hs,hm,hc']) | (refine T_draw tOK tmix [([], 0), ([0], 1), ([0, 1], 2), ([0, 1, 2], 3), ([], 4), ([], 5), ([0, 1, 2, 3, 4, 5], 6)] 6 (by decide +kernel) ?_; simp [hf,hw,hn,hs,hm,hc']) | (refine C_named ?_; simp [hf,hw,hn,hs,hm,hc']) | (refine C_bodyk tOK Tryz.func56 rfl (Nat.le_of_ble_eq_true rfl) fun K hK => ?_; simp) | (refine C_bodyk tOK Tryz.func63 rfl (Nat.le_of_ble_eq_true rfl) fun K hK => ?_; simp))
 ·right; simp [allStore, allBlk, allL, allB]
  exact fun a b => encFs_all _ _ (a, b)
 ·simpa [frzT, frzN, burn] using h
theorem C_write_full1 (hs : s.size ≤ maxLen) (hf : (d.fuse == 0) = false) (hw : IntKind.i64.wrap (d.fuse - 1) = d.fuse - 1) (hn : named s = true) (hg : dget s.data.toList d.files = none) (hc : decide (64 ≤ ((encFs d.files).length : Int)) = false) (hl : used d.files < 1000000000) (hq : IntKind.i64.wrap (d.room - used d.files) = d.room - used d.files)
  (hc2 : decide (d.room - used d.files < (b.length : Int)) = true) (h : R (.ret (i64 5)) (dkS (burn d))) :
  C tE 30 [.ptr 0 0 0 [], .str s, u8s b] (dkS d) R := by
 have hm := mget_enc s.data.toList d.files
 rw [hg] at hm
 have hbl : (u8l b).length = b.length := by simp [u8l]
 refine C_new tOK ?_
 refine C_bodyk tOK Tryz.func30 rfl (Nat.le_of_ble_eq_true rfl) fun K hK => ?_; simp
 repeat (first | (refine T_seqk fun K hK => ?_) | (refine T_reg tOK rfl ?_; simp [hf,hw,hn,hs,hm,hc]) | (refine T_ret ?_; try simp) | (refine T_skip ?_; try simp) | (refine T_blockk fun K hK => ?_) | (with_reducible apply_assumption -exfalso -symm) | (rw [afterRF_ret]; simp [hf,hw,hn,hs,hm,hc]) | (refine T_exit ?_; try simp) | (refine T_cond_t ?_ ?_; · (simp; done)) | (refine T_cond_f ?_ ?_; · (simp; done)) | (rintro _ _ (_ | _) hz9 <;> first | (simp; done) | (simp at hz9; done)) | (refine And.intro ?_ ?_) | (simp only [Post.block_ret, Post.block_exit, Post.block_normal, Post.block_pan, Post.seq_ret, Post.seq_exit, Post.seq_normal, Post.seq_pan]; try simp [hf,hw,hn,hs,hm,hc]) | (refine T_loop (TL_round ?_)) | (refine TL_round ?_) | (refine T_draw tOK tmix [([], 1), ([0], 2), ([0, 1], 3), ([0, 1, 2], 4), ([], 5), ([0, 1, 2, 3, 4], 6), ([0, 1, 2, 3, 4, 5], 7), ([0, 1, 2, 3, 4, 5, 6], 8), ([0, 1, 2, 3, 4, 5, 6], 9), ([], 0), ([0, 1, 2, 3, 4, 5, 6, 7, 9], 10), ([0, 1, 2, 3, 4, 5, 6, 7, 8, 9, 10], 11)] 11 (by decide +kernel) ?_; simp [hf,hw,hn,hs,hm,hc]) | (refine T_draw tOK tmix [([], 0), ([0], 1), ([], 2), ([2], 3), ([2, 3], 4), ([2, 3, 4], 5), ([], 6), ([6], 7), ([2, 3, 4, 5, 6, 7], 8), ([0, 1, 2, 3, 4, 5, 6, 7, 8], 9), ([0, 1, 2, 3, 4, 5, 6, 7, 8, 9], 10)] 9 (by decide +kernel) ?_; simp [hf,hw,hn,hs,hm,hc]) | (refine T_draw tOK tmix [([], 0), ([0], 1), ([0, 1], 2), ([0, 1, 2], 3), ([], 4), ([], 5), ([0, 1, 2, 3, 4, 5], 6)] 6 (by decide +kernel) ?_; simp [hf,hw,hn,hs,hm,hc]) | (refine C_named ?_; simp [hf,hw,hn,hs,hm,hc]) | (refine C_bodyk tOK Tryz.func56 rfl (Nat.le_of_ble_eq_true rfl) fun K hK => ?_; simp) | (refine C_bodyk tOK Tryz.func63 rfl (Nat.le_of_ble_eq_true rfl) fun K hK => ?_; simp))
 refine RD_call (rd := [0, 1]) (fun τ hτ => C_used_at (i := 0) (j := 1) (d := burn d) ⟨by decide, Store.at_some ((hτ 0 (by simp)).trans rfl), Store.at_some ((hτ 1 (by simp)).trans rfl)⟩ hl ⟨rfl, rfl⟩) ?_
 simp [hq,hbl,hc2,burn]
 refine ⟨?_, ?_⟩
 ·intro a a1 b h
  repeat (rcases h with ⟨rfl, rfl, rfl⟩ | h; · simp)
  obtain ⟨rfl, rfl, rfl⟩ := h
  simp
 repeat (first | (refine T_seqk fun K hK => ?_) | (refine T_reg tOK rfl ?_; simp [hf,hw,hn,hs,hm,hc,hbl,hq,hc2,burn]) | (refine T_ret ?_; try simp) | (refine T_skip ?_; try simp) | (refine T_blockk fun K hK => ?_) | (with_reducible apply_assumption -exfalso -symm) | (rw [afterRF_ret]; simp [hf,hw,hn,hs,hm,hc,hbl,hq,hc2,burn]) | (refine T_exit ?_; try simp) | (refine T_cond_t ?_ ?_; · (simp; done)) | (refine T_cond_f ?_ ?_; · (simp; done)) | (rintro _ _ (_ | _) hz9 <;> first | (simp; done) | (simp at hz9; done)) | (refine And.intro ?_ ?_) | (simp only [Post.block_ret, Post.block_exit, Post.block_normal, Post.block_pan, Post.seq_ret, Post.seq_exit, Post.seq_normal, Post.seq_pan]; try simp [hf,hw,hn,hs,hm,hc,hbl,hq,hc2,burn]) | (refine T_loop (TL_round ?_)) | (refine TL_round ?_) | (refine T_draw tOK tmix [([], 1), ([0], 2), ([0, 1], 3), ([0, 1, 2], 4), ([], 5), ([0, 1, 2, 3, 4], 6), ([0, 1, 2, 3, 4, 5], 7), ([0, 1, 2, 3, 4, 5, 6], 8), ([0, 1, 2, 3, 4, 5, 6], 9), ([], 0), ([0, 1, 2, 3, 4, 5, 6, 7, 9], 10), ([0, 1, 2, 3, 4, 5, 6, 7, 8, 9, 10], 11)] 11 (by decide +kernel) ?_; simp [hf,hw,hn,hs,hm,hc,hbl,hq,hc2,burn]) | (refine T_draw tOK tmix [([], 0), ([0], 1), ([], 2), ([2], 3), ([2, 3], 4), ([2, 3, 4], 5), ([], 6), ([6], 7), ([2, 3, 4, 5, 6, 7], 8), ([0, 1, 2, 3, 4, 5, 6, 7, 8], 9), ([0, 1, 2, 3, 4, 5, 6, 7, 8, 9], 10)] 9 (by decide +kernel) ?_; simp [hf,hw,hn,hs,hm,hc,hbl,hq,hc2,burn]) | (refine T_draw tOK tmix [([], 0), ([0], 1), ([0, 1], 2), ([0, 1, 2], 3), ([], 4), ([], 5), ([0, 1, 2, 3, 4, 5], 6)] 6 (by decide +kernel) ?_; simp [hf,hw,hn,hs,hm,hc,hbl,hq,hc2,burn]) | (refine C_named ?_; simp [hf,hw,hn,hs,hm,hc,hbl,hq,hc2,burn]) | (refine C_bodyk tOK Tryz.func56 rfl (Nat.le_of_ble_eq_true rfl) fun K hK => ?_; simp) | (refine C_bodyk tOK Tryz.func63 rfl (Nat.le_of_ble_eq_true rfl) fun K hK => ?_; simp))
 ·right; simp [allStore, allBlk, allL, allB]
  exact fun a b => encFs_all _ _ (a, b)
 ·simpa [frzT, frzN, burn] using h
theorem C_write_full2 (hs : s.size ≤ maxLen) (hf : (d.fuse == 0) = false) (hw : IntKind.i64.wrap (d.fuse - 1) = d.fuse - 1) (hn : named s = true) {f : Fl} (hg : dget s.data.toList d.files = some f) (hl : used d.files < 1000000000) (hq : IntKind.i64.wrap (d.room - used d.files) = d.room - used d.files)
  (hc2 : decide (d.room - used d.files < (b.length : Int)) = true) (h : R (.ret (i64 5)) (dkS (burn d))) :
  C tE 30 [.ptr 0 0 0 [], .str s, u8s b] (dkS d) R := by
 have hm := mget_enc s.data.toList d.files
 rw [hg] at hm
 have hbl : (u8l b).length = b.length := by simp [u8l]
 refine C_new tOK ?_
 refine C_bodyk tOK Tryz.func30 rfl (Nat.le_of_ble_eq_true rfl) fun K hK => ?_; simp
 repeat (first | (refine T_seqk fun K hK => ?_) | (refine T_reg tOK rfl ?_; simp [hf,hw,hn,hs,hm,encF]) | (refine T_ret ?_; try simp) | (refine T_skip ?_; try simp) | (refine T_blockk fun K hK => ?_) | (with_reducible apply_assumption -exfalso -symm) | (rw [afterRF_ret]; simp [hf,hw,hn,hs,hm,encF]) | (refine T_exit ?_; try simp) | (refine T_cond_t ?_ ?_; · (simp; done)) | (refine T_cond_f ?_ ?_; · (simp; done)) | (rintro _ _ (_ | _) hz9 <;> first | (simp; done) | (simp at hz9; done)) | (refine And.intro ?_ ?_) | (simp only [Post.block_ret, Post.block_exit, Post.block_normal, Post.block_pan, Post.seq_ret, Post.seq_exit, Post.seq_normal, Post.seq_pan]; try simp [hf,hw,hn,hs,hm,encF]) | (refine T_loop (TL_round ?_)) | (refine TL_round ?_) | (refine T_draw tOK tmix [([], 1), ([0], 2), ([0, 1], 3), ([0, 1, 2], 4), ([], 5), ([0, 1, 2, 3, 4], 6), ([0, 1, 2, 3, 4, 5], 7), ([0, 1, 2, 3, 4, 5, 6], 8), ([0, 1, 2, 3, 4, 5, 6], 9), ([], 0), ([0, 1, 2, 3, 4, 5, 6, 7, 9], 10), ([0, 1, 2, 3, 4, 5, 6, 7, 8, 9, 10], 11)] 11 (by decide +kernel) ?_; simp [hf,hw,hn,hs,hm,encF]) | (refine T_draw tOK tmix [([], 0), ([0], 1), ([], 2), ([2], 3), ([2, 3], 4), ([2, 3, 4], 5), ([], 6), ([6], 7), ([2, 3, 4, 5, 6, 7], 8), ([0, 1, 2, 3, 4, 5, 6, 7, 8], 9), ([0, 1, 2, 3, 4, 5, 6, 7, 8, 9], 10)] 9 (by decide +kernel) ?_; simp [hf,hw,hn,hs,hm,encF]) | (refine T_draw tOK tmix [([], 0), ([0], 1), ([0, 1], 2), ([0, 1, 2], 3), ([], 4), ([], 5), ([0, 1, 2, 3, 4, 5], 6)] 6 (by decide +kernel) ?_; simp [hf,hw,hn,hs,hm,encF]) | (refine C_named ?_; simp [hf,hw,hn,hs,hm,encF]) | (refine C_bodyk tOK Tryz.func56 rfl (Nat.le_of_ble_eq_true rfl) fun K hK => ?_; simp) | (refine C_bodyk tOK Tryz.func63 rfl (Nat.le_of_ble_eq_true rfl) fun K hK => ?_; simp))
 refine RD_call (rd := [0, 1]) (fun τ hτ => C_used_at (i := 0) (j := 1) (d := burn d) ⟨by decide, Store.at_some ((hτ 0 (by simp)).trans rfl), Store.at_some ((hτ 1 (by simp)).trans rfl)⟩ hl ⟨rfl, rfl⟩) ?_
 simp [hq,hbl,hc2,burn]
 refine ⟨?_, ?_⟩
 ·intro a a1 b h
  repeat (rcases h with ⟨rfl, rfl, rfl⟩ | h; · simp)
  obtain ⟨rfl, rfl, rfl⟩ := h
  simp
 repeat (first | (refine T_seqk fun K hK => ?_) | (refine T_reg tOK rfl ?_; simp [hf,hw,hn,hs,hm,encF,hbl,hq,hc2,burn]) | (refine T_ret ?_; try simp) | (refine T_skip ?_; try simp) | (refine T_blockk fun K hK => ?_) | (with_reducible apply_assumption -exfalso -symm) | (rw [afterRF_ret]; simp [hf,hw,hn,hs,hm,encF,hbl,hq,hc2,burn]) | (refine T_exit ?_; try simp) | (refine T_cond_t ?_ ?_; · (simp; done)) | (refine T_cond_f ?_ ?_; · (simp; done)) | (rintro _ _ (_ | _) hz9 <;> first | (simp; done) | (simp at hz9; done)) | (refine And.intro ?_ ?_) | (simp only [Post.block_ret, Post.block_exit, Post.block_normal, Post.block_pan, Post.seq_ret, Post.seq_exit, Post.seq_normal, Post.seq_pan]; try simp [hf,hw,hn,hs,hm,encF,hbl,hq,hc2,burn]) | (refine T_loop (TL_round ?_)) | (refine TL_round ?_) | (refine T_draw tOK tmix [([], 1), ([0], 2), ([0, 1], 3), ([0, 1, 2], 4), ([], 5), ([0, 1, 2, 3, 4], 6), ([0, 1, 2, 3, 4, 5], 7), ([0, 1, 2, 3, 4, 5, 6], 8), ([0, 1, 2, 3, 4, 5, 6], 9), ([], 0), ([0, 1, 2, 3, 4, 5, 6, 7, 9], 10), ([0, 1, 2, 3, 4, 5, 6, 7, 8, 9, 10], 11)] 11 (by decide +kernel) ?_; simp [hf,hw,hn,hs,hm,encF,hbl,hq,hc2,burn]) | (refine T_draw tOK tmix [([], 0), ([0], 1), ([], 2), ([2], 3), ([2, 3], 4), ([2, 3, 4], 5), ([], 6), ([6], 7), ([2, 3, 4, 5, 6, 7], 8), ([0, 1, 2, 3, 4, 5, 6, 7, 8], 9), ([0, 1, 2, 3, 4, 5, 6, 7, 8, 9], 10)] 9 (by decide +kernel) ?_; simp [hf,hw,hn,hs,hm,encF,hbl,hq,hc2,burn]) | (refine T_draw tOK tmix [([], 0), ([0], 1), ([0, 1], 2), ([0, 1, 2], 3), ([], 4), ([], 5), ([0, 1, 2, 3, 4, 5], 6)] 6 (by decide +kernel) ?_; simp [hf,hw,hn,hs,hm,encF,hbl,hq,hc2,burn]) | (refine C_named ?_; simp [hf,hw,hn,hs,hm,encF,hbl,hq,hc2,burn]) | (refine C_bodyk tOK Tryz.func56 rfl (Nat.le_of_ble_eq_true rfl) fun K hK => ?_; simp) | (refine C_bodyk tOK Tryz.func63 rfl (Nat.le_of_ble_eq_true rfl) fun K hK => ?_; simp))
 ·right; simp [allStore, allBlk, allL, allB]
  exact fun a b => encFs_all _ _ (a, b)
 ·simpa [frzT, frzN, burn] using h
theorem C_write_ok0 (hs : s.size ≤ maxLen) (hf : (d.fuse == 0) = false) (hw : IntKind.i64.wrap (d.fuse - 1) = d.fuse - 1) (hn : named s = true) (hg : dget s.data.toList d.files = none) (hc : decide (64 ≤ ((encFs d.files).length : Int)) = false) (hl : used d.files < 1000000000) (hq : IntKind.i64.wrap (d.room - used d.files) = d.room - used d.files)
  (hc2 : decide (d.room - used d.files < (b.length : Int)) = false) (hlen : (encFs d.files).length < 1000000) (hcl : ([] : List UInt8).length + b.length < 100000000)
  (h : R (.ret (i64 0)) (dkS { burn d with files := dput s.data.toList ⟨b, 0⟩ d.files })) :
  C tE 30 [.ptr 0 0 0 [], .str s, u8s b] (dkS d) R := by
 have hm := mget_enc s.data.toList d.files
 rw [hg] at hm
 have hbl : (u8l b).length = b.length := by simp [u8l]
 refine C_new tOK ?_
 refine C_bodyk tOK Tryz.func30 rfl (Nat.le_of_ble_eq_true rfl) fun K hK => ?_; simp
 repeat (first | (refine T_seqk fun K hK => ?_) | (refine T_reg tOK rfl ?_; simp [hf,hw,hn,hs,hm,hc]) | (refine T_ret ?_; try simp) | (refine T_skip ?_; try simp) | (refine T_blockk fun K hK => ?_) | (with_reducible apply_assumption -exfalso -symm) | (rw [afterRF_ret]; simp [hf,hw,hn,hs,hm,hc]) | (refine T_exit ?_; try simp) | (refine T_cond_t ?_ ?_; · (simp; done)) | (refine T_cond_f ?_ ?_; · (simp; done)) | (rintro _ _ (_ | _) hz9 <;> first | (simp; done) | (simp at hz9; done)) | (refine And.intro ?_ ?_) | (simp only [Post.block_ret, Post.block_exit, Post.block_normal, Post.block_pan, Post.seq_ret, Post.seq_exit, Post.seq_normal, Post.seq_pan]; try simp [hf,hw,hn,hs,hm,hc]) | (refine T_loop (TL_round ?_)) | (refine TL_round ?_) | (refine T_draw tOK tmix [([], 1), ([0], 2), ([0, 1], 3), ([0, 1, 2], 4), ([], 5), ([0, 1, 2, 3, 4], 6), ([0, 1, 2, 3, 4, 5], 7), ([0, 1, 2, 3, 4, 5, 6], 8), ([0, 1, 2, 3, 4, 5, 6], 9), ([], 0), ([0, 1, 2, 3, 4, 5, 6, 7, 9], 10), ([0, 1, 2, 3, 4, 5, 6, 7, 8, 9, 10], 11)] 11 (by decide +kernel) ?_; simp [hf,hw,hn,hs,hm,hc]) | (refine T_draw tOK tmix [([], 0), ([0], 1), ([], 2), ([2], 3), ([2, 3], 4), ([2, 3, 4], 5), ([], 6), ([6], 7), ([2, 3, 4, 5, 6, 7], 8), ([0, 1, 2, 3, 4, 5, 6, 7, 8], 9), ([0, 1, 2, 3, 4, 5, 6, 7, 8, 9], 10)] 9 (by decide +kernel) ?_; simp [hf,hw,hn,hs,hm,hc]) | (refine T_draw tOK tmix [([], 0), ([0], 1), ([0, 1], 2), ([0, 1, 2], 3), ([], 4), ([], 5), ([0, 1, 2, 3, 4, 5], 6)] 6 (by decide +kernel) ?_; simp [hf,hw,hn,hs,hm,hc]) | (refine C_named ?_; simp [hf,hw,hn,hs,hm,hc]) | (refine C_bodyk tOK Tryz.func56 rfl (Nat.le_of_ble_eq_true rfl) fun K hK => ?_; simp) | (refine C_bodyk tOK Tryz.func63 rfl (Nat.le_of_ble_eq_true rfl) fun K hK => ?_; simp))
 refine RD_call (rd := [0, 1]) (fun τ hτ => C_used_at (i := 0) (j := 1) (d := burn d) ⟨by decide, Store.at_some ((hτ 0 (by simp)).trans rfl), Store.at_some ((hτ 1 (by simp)).trans rfl)⟩ hl ⟨rfl, rfl⟩) ?_
 simp [hq,hbl,hc2,burn]
 refine ⟨?_, ?_⟩
 ·intro a a1 b h
  repeat (rcases h with ⟨rfl, rfl, rfl⟩ | h; · simp)
  obtain ⟨rfl, rfl, rfl⟩ := h
  simp
 repeat (first | (refine T_seqk fun K hK => ?_) | (refine T_reg tOK rfl ?_; simp [hf,hw,hn,hs,hm,hc,hbl,hq,hc2,burn]) | (refine T_ret ?_; try simp) | (refine T_skip ?_; try simp) | (refine T_blockk fun K hK => ?_) | (with_reducible apply_assumption -exfalso -symm) | (rw [afterRF_ret]; simp [hf,hw,hn,hs,hm,hc,hbl,hq,hc2,burn]) | (refine T_exit ?_; try simp) | (refine T_cond_t ?_ ?_; · (simp; done)) | (refine T_cond_f ?_ ?_; · (simp; done)) | (rintro _ _ (_ | _) hz9 <;> first | (simp; done) | (simp at hz9; done)) | (refine And.intro ?_ ?_) | (simp only [Post.block_ret, Post.block_exit, Post.block_normal, Post.block_pan, Post.seq_ret, Post.seq_exit, Post.seq_normal, Post.seq_pan]; try simp [hf,hw,hn,hs,hm,hc,hbl,hq,hc2,burn]) | (refine T_loop (TL_round ?_)) | (refine TL_round ?_) | (refine T_draw tOK tmix [([], 1), ([0], 2), ([0, 1], 3), ([0, 1, 2], 4), ([], 5), ([0, 1, 2, 3, 4], 6), ([0, 1, 2, 3, 4, 5], 7), ([0, 1, 2, 3, 4, 5, 6], 8), ([0, 1, 2, 3, 4, 5, 6], 9), ([], 0), ([0, 1, 2, 3, 4, 5, 6, 7, 9], 10), ([0, 1, 2, 3, 4, 5, 6, 7, 8, 9, 10], 11)] 11 (by decide +kernel) ?_; simp [hf,hw,hn,hs,hm,hc,hbl,hq,hc2,burn]) | (refine T_draw tOK tmix [([], 0), ([0], 1), ([], 2), ([2], 3), ([2, 3], 4), ([2, 3, 4], 5), ([], 6), ([6], 7), ([2, 3, 4, 5, 6, 7], 8), ([0, 1, 2, 3, 4, 5, 6, 7, 8], 9), ([0, 1, 2, 3, 4, 5, 6, 7, 8, 9], 10)] 9 (by decide +kernel) ?_; simp [hf,hw,hn,hs,hm,hc,hbl,hq,hc2,burn]) | (refine T_draw tOK tmix [([], 0), ([0], 1), ([0, 1], 2), ([0, 1, 2], 3), ([], 4), ([], 5), ([0, 1, 2, 3, 4, 5], 6)] 6 (by decide +kernel) ?_; simp [hf,hw,hn,hs,hm,hc,hbl,hq,hc2,burn]) | (refine C_named ?_; simp [hf,hw,hn,hs,hm,hc,hbl,hq,hc2,burn]) | (refine C_bodyk tOK Tryz.func56 rfl (Nat.le_of_ble_eq_true rfl) fun K hK => ?_; simp) | (refine C_bodyk tOK Tryz.func63 rfl (Nat.le_of_ble_eq_true rfl) fun K hK => ?_; simp))
 have hp : mput (.string s.data.toList) (.agg 72 [.lit (u8l b), i64 0]) (encFs d.files) = encFs (dput s.data.toList ⟨b, 0⟩ d.files) := mput_enc s.data.toList ⟨b, 0⟩ d.files
 refine C_concat (b := b) (a := []) (.inr ⟨rfl, rfl⟩) rfl hcl ?_
 simp
 repeat (first | (refine T_seqk fun K hK => ?_) | (refine T_reg tOK rfl ?_; simp [hf,hw,hn,hs,hm,hc,hbl,hlen,burn]) | (refine T_ret ?_; try simp) | (refine T_skip ?_; try simp) | (refine T_blockk fun K hK => ?_) | (with_reducible apply_assumption -exfalso -symm) | (rw [afterRF_ret]; simp [hf,hw,hn,hs,hm,hc,hbl,hlen,burn]) | (refine T_exit ?_; try simp) | (refine T_cond_t ?_ ?_; · (simp; done)) | (refine T_cond_f ?_ ?_; · (simp; done)) | (rintro _ _ (_ | _) hz9 <;> first | (simp; done) | (simp at hz9; done)) | (refine And.intro ?_ ?_) | (simp only [Post.block_ret, Post.block_exit, Post.block_normal, Post.block_pan, Post.seq_ret, Post.seq_exit, Post.seq_normal, Post.seq_pan]; try simp [hf,hw,hn,hs,hm,hc,hbl,hlen,burn]) | (refine T_loop (TL_round ?_)) | (refine TL_round ?_) | (refine T_draw tOK tmix [([], 1), ([0], 2), ([0, 1], 3), ([0, 1, 2], 4), ([], 5), ([0, 1, 2, 3, 4], 6), ([0, 1, 2, 3, 4, 5], 7), ([0, 1, 2, 3, 4, 5, 6], 8), ([0, 1, 2, 3, 4, 5, 6], 9), ([], 0), ([0, 1, 2, 3, 4, 5, 6, 7, 9], 10), ([0, 1, 2, 3, 4, 5, 6, 7, 8, 9, 10], 11)] 11 (by decide +kernel) ?_; simp [hf,hw,hn,hs,hm,hc,hbl,hlen,burn]) | (refine T_draw tOK tmix [([], 0), ([0], 1), ([], 2), ([2], 3), ([2, 3], 4), ([2, 3, 4], 5), ([], 6), ([6], 7), ([2, 3, 4, 5, 6, 7], 8), ([0, 1, 2, 3, 4, 5, 6, 7, 8], 9), ([0, 1, 2, 3, 4, 5, 6, 7, 8, 9], 10)] 9 (by decide +kernel) ?_; simp [hf,hw,hn,hs,hm,hc,hbl,hlen,burn]) | (refine T_draw tOK tmix [([], 0), ([0], 1), ([0, 1], 2), ([0, 1, 2], 3), ([], 4), ([], 5), ([0, 1, 2, 3, 4, 5], 6)] 6 (by decide +kernel) ?_; simp [hf,hw,hn,hs,hm,hc,hbl,hlen,burn]) | (refine C_bodyk tOK Tryz.func63 rfl (Nat.le_of_ble_eq_true rfl) fun K hK => ?_; simp))
 ·right; rw [hp]; simp [allStore, allBlk, allL, allB]
  exact fun a b => encFs_all _ _ (a, b)
 ·rw [hp]; simpa [frzT, frzN, burn] using h
theorem C_write_ok1 (hs : s.size ≤ maxLen) (hf : (d.fuse == 0) = false) (hw : IntKind.i64.wrap (d.fuse - 1) = d.fuse - 1) (hn : named s = true) {f : Fl} (hg : dget s.data.toList d.files = some f) (hl : used d.files < 1000000000) (hq : IntKind.i64.wrap (d.room - used d.files) = d.room - used d.files)
  (hc2 : decide (d.room - used d.files < (b.length : Int)) = false) (hlen : (encFs d.files).length < 1000000) (hcl : f.b.length + b.length < 100000000)
  (h : R (.ret (i64 0)) (dkS { burn d with files := dput s.data.toList { f with b := f.b ++ b } d.files })) :
  C tE 30 [.ptr 0 0 0 [], .str s, u8s b] (dkS d) R := by
 have hm := mget_enc s.data.toList d.files
 rw [hg] at hm
 have hbl : (u8l b).length = b.length := by simp [u8l]
 refine C_new tOK ?_
 refine C_bodyk tOK Tryz.func30 rfl (Nat.le_of_ble_eq_true rfl) fun K hK => ?_; simp
 repeat (first | (refine T_seqk fun K hK => ?_) | (refine T_reg tOK rfl ?_; simp [hf,hw,hn,hs,hm,encF]) | (refine T_ret ?_; try simp) | (refine T_skip ?_; try simp) | (refine T_blockk fun K hK => ?_) | (with_reducible apply_assumption -exfalso -symm) | (rw [afterRF_ret]; simp [hf,hw,hn,hs,hm,encF]) | (refine T_exit ?_; try simp) | (refine T_cond_t ?_ ?_; · (simp; done)) | (refine T_cond_f ?_ ?_; · (simp; done)) | (rintro _ _ (_ | _) hz9 <;> first | (simp; done) | (simp at hz9; done)) | (refine And.intro ?_ ?_) | (simp only [Post.block_ret, Post.block_exit, Post.block_normal, Post.block_pan, Post.seq_ret, Post.seq_exit, Post.seq_normal, Post.seq_pan]; try simp [hf,hw,hn,hs,hm,encF]) | (refine T_loop (TL_round ?_)) | (refine TL_round ?_) | (refine T_draw tOK tmix [([], 1), ([0], 2), ([0, 1], 3), ([0, 1, 2], 4), ([], 5), ([0, 1, 2, 3, 4], 6), ([0, 1, 2, 3, 4, 5], 7), ([0, 1, 2, 3, 4, 5, 6], 8), ([0, 1, 2, 3, 4, 5, 6], 9), ([], 0), ([0, 1, 2, 3, 4, 5, 6, 7, 9], 10), ([0, 1, 2, 3, 4, 5, 6, 7, 8, 9, 10], 11)] 11 (by decide +kernel) ?_; simp [hf,hw,hn,hs,hm,encF]) | (refine T_draw tOK tmix [([], 0), ([0], 1), ([], 2), ([2], 3), ([2, 3], 4), ([2, 3, 4], 5), ([], 6), ([6], 7), ([2, 3, 4, 5, 6, 7], 8), ([0, 1, 2, 3, 4, 5, 6, 7, 8], 9), ([0, 1, 2, 3, 4, 5, 6, 7, 8, 9], 10)] 9 (by decide +kernel) ?_; simp [hf,hw,hn,hs,hm,encF]) | (refine T_draw tOK tmix [([], 0), ([0], 1), ([0, 1], 2), ([0, 1, 2], 3), ([], 4), ([], 5), ([0, 1, 2, 3, 4, 5], 6)] 6 (by decide +kernel) ?_; simp [hf,hw,hn,hs,hm,encF]) | (refine C_named ?_; simp [hf,hw,hn,hs,hm,encF]) | (refine C_bodyk tOK Tryz.func56 rfl (Nat.le_of_ble_eq_true rfl) fun K hK => ?_; simp) | (refine C_bodyk tOK Tryz.func63 rfl (Nat.le_of_ble_eq_true rfl) fun K hK => ?_; simp))
 refine RD_call (rd := [0, 1]) (fun τ hτ => C_used_at (i := 0) (j := 1) (d := burn d) ⟨by decide, Store.at_some ((hτ 0 (by simp)).trans rfl), Store.at_some ((hτ 1 (by simp)).trans rfl)⟩ hl ⟨rfl, rfl⟩) ?_
 simp [hq,hbl,hc2,burn]
 refine ⟨?_, ?_⟩
 ·intro a a1 b h
  repeat (rcases h with ⟨rfl, rfl, rfl⟩ | h; · simp)
  obtain ⟨rfl, rfl, rfl⟩ := h
  simp
 repeat (first | (refine T_seqk fun K hK => ?_) | (refine T_reg tOK rfl ?_; simp [hf,hw,hn,hs,hm,encF,hbl,hq,hc2,burn]) | (refine T_ret ?_; try simp) | (refine T_skip ?_; try simp) | (refine T_blockk fun K hK => ?_) | (with_reducible apply_assumption -exfalso -symm) | (rw [afterRF_ret]; simp [hf,hw,hn,hs,hm,encF,hbl,hq,hc2,burn]) | (refine T_exit ?_; try simp) | (refine T_cond_t ?_ ?_; · (simp; done)) | (refine T_cond_f ?_ ?_; · (simp; done)) | (rintro _ _ (_ | _) hz9 <;> first | (simp; done) | (simp at hz9; done)) | (refine And.intro ?_ ?_) | (simp only [Post.block_ret, Post.block_exit, Post.block_normal, Post.block_pan, Post.seq_ret, Post.seq_exit, Post.seq_normal, Post.seq_pan]; try simp [hf,hw,hn,hs,hm,encF,hbl,hq,hc2,burn]) | (refine T_loop (TL_round ?_)) | (refine TL_round ?_) | (refine T_draw tOK tmix [([], 1), ([0], 2), ([0, 1], 3), ([0, 1, 2], 4), ([], 5), ([0, 1, 2, 3, 4], 6), ([0, 1, 2, 3, 4, 5], 7), ([0, 1, 2, 3, 4, 5, 6], 8), ([0, 1, 2, 3, 4, 5, 6], 9), ([], 0), ([0, 1, 2, 3, 4, 5, 6, 7, 9], 10), ([0, 1, 2, 3, 4, 5, 6, 7, 8, 9, 10], 11)] 11 (by decide +kernel) ?_; simp [hf,hw,hn,hs,hm,encF,hbl,hq,hc2,burn]) | (refine T_draw tOK tmix [([], 0), ([0], 1), ([], 2), ([2], 3), ([2, 3], 4), ([2, 3, 4], 5), ([], 6), ([6], 7), ([2, 3, 4, 5, 6, 7], 8), ([0, 1, 2, 3, 4, 5, 6, 7, 8], 9), ([0, 1, 2, 3, 4, 5, 6, 7, 8, 9], 10)] 9 (by decide +kernel) ?_; simp [hf,hw,hn,hs,hm,encF,hbl,hq,hc2,burn]) | (refine T_draw tOK tmix [([], 0), ([0], 1), ([0, 1], 2), ([0, 1, 2], 3), ([], 4), ([], 5), ([0, 1, 2, 3, 4, 5], 6)] 6 (by decide +kernel) ?_; simp [hf,hw,hn,hs,hm,encF,hbl,hq,hc2,burn]) | (refine C_named ?_; simp [hf,hw,hn,hs,hm,encF,hbl,hq,hc2,burn]) | (refine C_bodyk tOK Tryz.func56 rfl (Nat.le_of_ble_eq_true rfl) fun K hK => ?_; simp) | (refine C_bodyk tOK Tryz.func63 rfl (Nat.le_of_ble_eq_true rfl) fun K hK => ?_; simp))
 have hp : mput (.string s.data.toList) (.agg 72 [.lit (u8l (f.b ++ b)), i64 f.last]) (encFs d.files) = encFs (dput s.data.toList { f with b := f.b ++ b } d.files) := mput_enc s.data.toList { f with b := f.b ++ b } d.files
 refine C_concat (b := b) (a := f.b) (.inl rfl) rfl hcl ?_
 simp
 repeat (first | (refine T_seqk fun K hK => ?_) | (refine T_reg tOK rfl ?_; simp [hf,hw,hn,hs,hm,encF,hbl,hlen,burn]) | (refine T_ret ?_; try simp) | (refine T_skip ?_; try simp) | (refine T_blockk fun K hK => ?_) | (with_reducible apply_assumption -exfalso -symm) | (rw [afterRF_ret]; simp [hf,hw,hn,hs,hm,encF,hbl,hlen,burn]) | (refine T_exit ?_; try simp) | (refine T_cond_t ?_ ?_; · (simp; done)) | (refine T_cond_f ?_ ?_; · (simp; done)) | (rintro _ _ (_ | _) hz9 <;> first | (simp; done) | (simp at hz9; done)) | (refine And.intro ?_ ?_) | (simp only [Post.block_ret, Post.block_exit, Post.block_normal, Post.block_pan, Post.seq_ret, Post.seq_exit, Post.seq_normal, Post.seq_pan]; try simp [hf,hw,hn,hs,hm,encF,hbl,hlen,burn]) | (refine T_loop (TL_round ?_)) | (refine TL_round ?_) | (refine T_draw tOK tmix [([], 1), ([0], 2), ([0, 1], 3), ([0, 1, 2], 4), ([], 5), ([0, 1, 2, 3, 4], 6), ([0, 1, 2, 3, 4, 5], 7), ([0, 1, 2, 3, 4, 5, 6], 8), ([0, 1, 2, 3, 4, 5, 6], 9), ([], 0), ([0, 1, 2, 3, 4, 5, 6, 7, 9], 10), ([0, 1, 2, 3, 4, 5, 6, 7, 8, 9, 10], 11)] 11 (by decide +kernel) ?_; simp [hf,hw,hn,hs,hm,encF,hbl,hlen,burn]) | (refine T_draw tOK tmix [([], 0), ([0], 1), ([], 2), ([2], 3), ([2, 3], 4), ([2, 3, 4], 5), ([], 6), ([6], 7), ([2, 3, 4, 5, 6, 7], 8), ([0, 1, 2, 3, 4, 5, 6, 7, 8], 9), ([0, 1, 2, 3, 4, 5, 6, 7, 8, 9], 10)] 9 (by decide +kernel) ?_; simp [hf,hw,hn,hs,hm,encF,hbl,hlen,burn]) | (refine T_draw tOK tmix [([], 0), ([0], 1), ([0, 1], 2), ([0, 1, 2], 3), ([], 4), ([], 5), ([0, 1, 2, 3, 4, 5], 6)] 6 (by decide +kernel) ?_; simp [hf,hw,hn,hs,hm,encF,hbl,hlen,burn]) | (refine C_bodyk tOK Tryz.func63 rfl (Nat.le_of_ble_eq_true rfl) fun K hK => ?_; simp))
 ·right; rw [hp]; simp [allStore, allBlk, allL, allB]
  exact fun a b => encFs_all _ _ (a, b)
 ·rw [hp]; simpa [frzT, frzN, burn] using h
end
end Go.Proofs.YtdplbgfokoajjaaGreat
end
section
set_option linter.unusedVariables false
set_option linter.unusedSimpArgs false
set_option maxRecDepth 20000
namespace Go.Proofs.YtdplbgfokoajjaaGreat
open Go
attribute [local simp] RF_nil RF_cons afterRF_ret nilCmp sop sGuard isCall sCallee Fr.eval Fr.get Fr.put ofConst sLoad sStore sBuiltin Fr.args bodyQ sRes oneOf sBin sInt sUn
attribute [local simp] RD_nil RD_cons noConf clear accAdd Tab.pr Tab.slot foot wid idOf refId Op.operands Call.operands sFieldAddr sNilCheck sLookup keyLit sMapSet sMapDel sLen Store.at Store.new getP setP typeAt fits evalParts sBuildSlice sFill sList sApp sAppend frzRe frz pureB pureL
attribute [local simp] dkB dkS u8s optEval sSlice sIndexAddr
def ints (l : List Int) : List PV := l.map i64
def crF (f : Fl) (k : Option Int) : Fl :=
 match k with
 | some k => ⟨f.b.take (f.last + min (max k 0) (f.b.length - f.last)).toNat, f.last + min (max k 0) (f.b.length - f.last)⟩
 | none => ⟨f.b.take f.last.toNat, f.last⟩
def crFs (keep : List Int) : Nat → List (List UInt8) → List (List UInt8 × Fl) → List (List UInt8 × Fl)
 | _, [], fs => fs
 | i, n :: ns, fs => crFs keep (i + 1) ns (match dget n fs with | some f => dput n (crF f keep[i]?) fs | none => fs)
structure FlOK (f : Fl) : Prop where
 lo : 0 ≤ f.last
 hi : f.last ≤ f.b.length
 sz : f.b.length < 100000000
theorem crF_ok {f : Fl} (h : FlOK f) (k : Option Int) : FlOK (crF f k) := by
 obtain ⟨h1, h2, h3⟩ := h
 unfold crF
 split
 ·rename_i k
  refine ⟨?_, ?_, ?_⟩
  ·show 0 ≤ f.last + min (max k 0) (f.b.length - f.last); omega
  ·show f.last + min (max k 0) (f.b.length - f.last) ≤ (List.length (f.b.take _) : Nat)
   rw [List.length_take]; omega
  ·show List.length (f.b.take _) < _
   rw [List.length_take]; omega
 ·refine ⟨h1, ?_, ?_⟩
  ·show f.last ≤ (List.length (f.b.take _) : Nat)
   rw [List.length_take]; omega
  ·show List.length (f.b.take _) < _
   rw [List.length_take]; omega
theorem dget_dins (n m : List UInt8) (f : Fl) : ∀ l : List (List UInt8 × Fl), (∀ p ∈ l, p.1 ≠ n) → dget m (dins (n, f) l) = if m = n then some f else dget m l
 | [], _ => by
  simp only [dins, dget, List.find?_cons, List.find?_nil]
  by_cases h : m = n
  ·simp [h]
  ·have : (n == m) = false := by simp [Ne.symm h]
   simp [h, this]
 | y :: l, hl => by
  have ih := dget_dins n m f l fun p hp => hl p (by simp [hp])
  simp only [dins]
  split
  ·by_cases h : m = n
   ·simp [dget, h]
   ·have : (n == m) = false := by simp [Ne.symm h]
    simp [dget, List.find?_cons, h, this]
  ·have hy := hl y (by simp)
   by_cases h : y.1 = m
   ·have hmn : m ≠ n := fun e => hy (h.trans e)
    simp [dget, List.find?_cons, h, hmn]
   ·have hb : (y.1 == m) = false := by simp [h]
    simp only [dget, List.find?_cons, hb] at ih ⊢
    exact ih
theorem dget_ddel (n m : List UInt8) (l : List (List UInt8 × Fl)) : dget m (ddel n l) = if m = n then none else dget m l := by
 unfold dget ddel
 induction l with
 | nil => simp
 | cons y l ih =>
  simp only [List.filter_cons, List.find?_cons]
  by_cases h : y.1 = n
  ·have hb : (y.1 == n) = true := by simp [h]
   simp only [hb, Bool.not_true, Bool.false_eq_true, if_false, ih]
   by_cases hm : m = n
   ·simp [hm]
   ·have hb2 : (y.1 == m) = false := by simp [h, Ne.symm hm]
    simp [hm, hb2]
  ·have hb : (y.1 == n) = false := by simp [h]
   simp only [hb, Bool.not_false, if_true, List.find?_cons]
   by_cases hm : y.1 = m
   ·have hmn : m ≠ n := fun e => h (hm.trans e)
    simp [hm, hmn]
   ·have hb2 : (y.1 == m) = false := by simp [hm]
    simp only [hb2, ih]
theorem dget_dput (n m : List UInt8) (f : Fl) (l : List (List UInt8 × Fl)) : dget m (dput n f l) = if m = n then some f else dget m l := by
 unfold dput
 rw [dget_dins n m f _ fun p hp => by simp [ddel] at hp; exact hp.2, dget_ddel]
 by_cases h : m = n <;> simp [h]
theorem dins_len (x : List UInt8 × Fl) : ∀ l, (dins x l).length = l.length + 1
 | [] => rfl
 | y :: l => by
  simp only [dins]
  split
  ·simp
  ·simp [dins_len x l]
theorem ddel_len (n : List UInt8) (l : List (List UInt8 × Fl)) : (ddel n l).length ≤ l.length := List.length_filter_le _ _
theorem dput_len (n : List UInt8) (f : Fl) (l : List (List UInt8 × Fl)) : (dput n f l).length ≤ l.length + 1 := by
 unfold dput
 rw [dins_len]
 have := ddel_len n l
 omega
theorem mem_u8l (x : PV) (l : List UInt8) : x ∈ u8l l ↔ ∃ b ∈ l, PV.int .u8 b.toNat = x := List.mem_map
theorem u8l_take (l : List UInt8) (n : Nat) : u8l (l.take n) = (u8l l).take n := by simp [u8l]
theorem encFs_below (n : Nat) (l : List (List UInt8 × Fl)) : (encFs l).all (fun q => belowB n q.2) = true := by
 simp only [encFs, List.all_map, List.all_eq_true]
 intro p _
 simp [encF, u8s, belowB, belowL]
section
variable {R : Re → Store → Prop} {d : Dk} {keep : List Int}
theorem C_crash (hl : d.files.length < 1000) (hm : ∀ n ∈ names d, n.length ≤ maxLen) (hf : ∀ n ∈ names d, ∃ f, dget n d.files = some f ∧ FlOK f) (hk : ∀ k ∈ keep, k ≤ 9223372036854775807) (hkl : keep.length ≤ 9223372036854775807)
  (h : R (.ret (.tup [])) (dkS { d with files := crFs keep 0 (names d) d.files, fuse := -1, fail := 0 })) : C tE 29 [.ptr 0 0 0 [], .lit (ints keep)] (dkS d) R := by
 refine C_new tOK ?_
 refine C_bodyk tOK Tryz.func29 rfl (Nat.le_of_ble_eq_true rfl) fun K hK => ?_; simp
 repeat (first | (refine T_seqk fun K hK => ?_) | (refine T_reg tOK rfl ?_; simp) | (refine T_ret ?_; try simp) | (refine T_skip ?_; try simp) | (refine T_blockk fun K hK => ?_) | (with_reducible apply_assumption -exfalso -symm) | (rw [afterRF_ret]; simp) | (refine T_exit ?_; try simp) | (refine T_cond_t ?_ ?_; · (simp; done)) | (refine T_cond_f ?_ ?_; · (simp; done)) | (rintro _ _ (_ | _) hz9 <;> first | (simp; done) | (simp at hz9; done)) | (refine And.intro ?_ ?_) | (simp only [Post.block_ret, Post.block_exit, Post.block_normal, Post.block_pan, Post.seq_ret, Post.seq_exit, Post.seq_normal, Post.seq_pan]; try simp) | (refine T_draw tOK tmix [([], 0), ([0], 1), ([], 2), ([], 3), ([2, 3], 4), ([2, 3, 4], 5), ([2, 3, 4, 5], 6), ([], 7), ([7], 8), ([7, 8], 9), ([], 10), ([10], 11), ([7, 8, 9, 10, 11], 12), ([2, 3, 4, 5, 6, 7, 8, 9, 10, 11, 12], 13), ([0, 1, 2, 3, 4, 5, 6, 7, 8, 9, 10, 11, 12, 13], 14), ([0, 1, 2, 3, 4, 5, 6, 7, 8, 9, 10, 11, 12, 13, 14], 15), ([0, 1, 2, 3, 4, 5, 6, 7, 8, 9, 10, 11, 12, 13, 14, 15], 16)] 14 (by decide +kernel) ?_; simp) | (refine T_draw tOK tmix [([], 0), ([0], 1), ([0, 1], 2), ([0, 1, 2], 3), ([], 4), ([], 5), ([0, 1, 2, 3, 4, 5], 6)] 6 (by decide +kernel) ?_; simp))
 refine C_list (by omega) ?_
 repeat (first | (refine T_seqk fun K hK => ?_) | (refine T_reg tOK rfl ?_; simp) | (refine T_ret ?_; try simp) | (refine T_skip ?_; try simp) | (refine T_blockk fun K hK => ?_) | (with_reducible apply_assumption -exfalso -symm) | (rw [afterRF_ret]; simp) | (refine T_exit ?_; try simp) | (refine T_cond_t ?_ ?_; · (simp; done)) | (refine T_cond_f ?_ ?_; · (simp; done)) | (rintro _ _ (_ | _) hz9 <;> first | (simp; done) | (simp at hz9; done)) | (refine And.intro ?_ ?_) | (simp only [Post.block_ret, Post.block_exit, Post.block_normal, Post.block_pan, Post.seq_ret, Post.seq_exit, Post.seq_normal, Post.seq_pan]; try simp) | (refine T_draw tOK tmix [([], 0), ([0], 1), ([], 2), ([], 3), ([2, 3], 4), ([2, 3, 4], 5), ([2, 3, 4, 5], 6), ([], 7), ([7], 8), ([7, 8], 9), ([], 10), ([10], 11), ([7, 8, 9, 10, 11], 12), ([2, 3, 4, 5, 6, 7, 8, 9, 10, 11, 12], 13), ([0, 1, 2, 3, 4, 5, 6, 7, 8, 9, 10, 11, 12, 13], 14), ([0, 1, 2, 3, 4, 5, 6, 7, 8, 9, 10, 11, 12, 13, 14], 15), ([0, 1, 2, 3, 4, 5, 6, 7, 8, 9, 10, 11, 12, 13, 14, 15], 16)] 14 (by decide +kernel) ?_; simp) | (refine T_draw tOK tmix [([], 0), ([0], 1), ([0, 1], 2), ([0, 1, 2], 3), ([], 4), ([], 5), ([0, 1, 2, 3, 4, 5], 6)] 6 (by decide +kernel) ?_; simp))
 refine T_loop ?_
 refine TL_keep [0, 1, 8, 9, 10] ?_
 simp [Fr.keep]
 have hlen : (names d).length = d.files.length := by simp [names]
 have hsl : (strs (names d)).length = (names d).length := by simp [strs]
 refine (?key : ∀ (ns : List (List UInt8)) (k : Nat) (fs : List (List UInt8 × Fl)), (names d).drop k = ns → (∀ n ∈ ns, ∃ f, dget n fs = some f ∧ FlOK f) → fs.length + ns.length < 100000 → crFs keep k ns fs = crFs keep 0 (names d) d.files →
  TL tE _ _ _ _ [(0, .ptr 0 0 0 []), (1, .lit (ints keep)), (8, .lit (strs (names d))), (9, i64 ↑(strs (names d)).length), (10, i64 k)] [some (Blk.cells 54 0 [PV.agg 54 [i64 d.room, PV.map 1, i64 d.fuse, i64 d.fail]]), some (Blk.mp 9 (encFs fs))]) (names d) 0 d.files rfl hf (by omega) rfl
 intro ns
 induction ns with
 | nil =>
  intro k fs hdrop _ _ hfs
  have hk0 : decide (k < (strs (names d)).length) = false := by
   have := List.drop_eq_nil_iff.1 hdrop
   rw [decide_eq_false_iff_not]; omega
  refine TL_round ?_
  repeat (first | (refine T_seqk fun K hK => ?_) | (refine T_reg tOK rfl ?_; simp [hk0]) | (refine T_ret ?_; try simp) | (refine T_skip ?_; try simp) | (refine T_blockk fun K hK => ?_) | (with_reducible apply_assumption -exfalso -symm) | (rw [afterRF_ret]; simp [hk0]) | (refine T_exit ?_; try simp) | (refine T_cond_t ?_ ?_; · (simp; done)) | (refine T_cond_f ?_ ?_; · (simp; done)) | (rintro _ _ (_ | _) hz9 <;> first | (simp; done) | (simp at hz9; done)) | (refine And.intro ?_ ?_) | (simp only [Post.block_ret, Post.block_exit, Post.block_normal, Post.block_pan, Post.seq_ret, Post.seq_exit, Post.seq_normal, Post.seq_pan]; try simp [hk0]) | (refine T_draw tOK tmix [([], 0), ([0], 1), ([], 2), ([], 3), ([2, 3], 4), ([2, 3, 4], 5), ([2, 3, 4, 5], 6), ([], 7), ([7], 8), ([7, 8], 9), ([], 10), ([10], 11), ([7, 8, 9, 10, 11], 12), ([2, 3, 4, 5, 6, 7, 8, 9, 10, 11, 12], 13), ([0, 1, 2, 3, 4, 5, 6, 7, 8, 9, 10, 11, 12, 13], 14), ([0, 1, 2, 3, 4, 5, 6, 7, 8, 9, 10, 11, 12, 13, 14], 15), ([0, 1, 2, 3, 4, 5, 6, 7, 8, 9, 10, 11, 12, 13, 14, 15], 16)] 14 (by decide +kernel) ?_; simp [hk0]) | (refine T_draw tOK tmix [([], 0), ([0], 1), ([0, 1], 2), ([0, 1, 2], 3), ([], 4), ([], 5), ([0, 1, 2, 3, 4, 5], 6)] 6 (by decide +kernel) ?_; simp [hk0]))
  ·exact .inr (by simp [allStore, allBlk, allL, allB]; exact fun a b => encFs_all _ _ (a, b))
  ·have hfs : fs = crFs keep 0 (names d) d.files := hfs
   subst hfs
   simpa [frzT, frzN] using h
 | cons n ns ih =>
  intro k fs hdrop hP hlen2 hfs
  have hkl : k < (names d).length := by
   rcases Nat.lt_or_ge k (names d).length with h | h
   ·exact h
   ·rw [List.drop_eq_nil_iff.2 h] at hdrop; simp at hdrop
  have hk0 : decide (k < (strs (names d)).length) = true := by rw [decide_eq_true_eq, hsl]; exact hkl
  have hnk : (names d)[k]? = some n := by
   have := List.getElem?_drop (xs := names d) (i := k) (j := 0)
   rw [hdrop] at this; simpa using this.symm
  have hsk : (strs (names d))[k]? = some (.str ⟨n.toArray⟩) := by simp [strs, hnk]
  have hns : (⟨n.toArray⟩ : ByteArray).size ≤ maxLen := hm n (List.mem_of_getElem? hnk)
  obtain ⟨f, hg, hF⟩ := hP n (by simp)
  have hget := mget_enc n fs
  rw [hg] at hget
  obtain ⟨q1, q2, q3⟩ := hF
  have hF : FlOK f := ⟨q1, q2, q3⟩
  have hwk : IntKind.i64.wrap ((k : Int) + 1) = ((k + 1 : Nat) : Int) := by rw [IntWalk.i64_in _ (by omega)]; omega
  have hfl : (encFs fs).length < 1000000 := by simp only [encFs, List.length_map]; simp at hlen2; omega
  have hbl : (u8l f.b).length = f.b.length := by simp [u8l]
  have hcr : ∀ x, keep[k]? = x → crFs keep (k + 1) ns (dput n (crF f x) fs) = crFs keep 0 (names d) d.files := fun x hx => by
   rw [← hfs]; simp only [crFs, hg, hx]
  have hP' : ∀ x, ∀ m ∈ ns, ∃ g, dget m (dput n (crF f x) fs) = some g ∧ FlOK g := fun x m hm' => by
   rw [dget_dput]
   split
   ·exact ⟨_, rfl, crF_ok hF x⟩
   ·exact hP m (by simp [hm'])
  have hlen' : ∀ x, (dput n (crF f x) fs).length + ns.length < 100000 := fun x => by
   have := dput_len n (crF f x) fs
   simp at hlen2; omega
  have hdrop' : (names d).drop (k + 1) = ns := by
   have := congrArg (List.drop 1) hdrop
   simpa [List.drop_drop] using this
  cases hkk : keep[k]? with
  | none =>
   have hkk0 : decide (k < (ints keep).length) = false := by
    rw [decide_eq_false_iff_not]
    have := List.getElem?_eq_none_iff.1 hkk
    simp [ints]; omega
   have hput : mput (.string n) (.agg 72 [.lit ((u8l f.b).take f.last.toNat), i64 f.last]) (encFs fs) = encFs (dput n (crF f none) fs) := by
    rw [← u8l_take]; exact mput_enc n (crF f none) fs
   have hfit : f.last ≤ (f.b.length : Int) := q2
   refine TL_round ?_
   repeat (first | (refine T_seqk fun K hK => ?_) | (refine T_reg tOK rfl ?_; simp [hk0,hsk,hns,hget,encF,hkk0,hwk,hfl,hbl,q1,q2,mem_u8l]) | (refine T_ret ?_; try simp) | (refine T_skip ?_; try simp) | (refine T_blockk fun K hK => ?_) | (with_reducible apply_assumption -exfalso -symm) | (rw [afterRF_ret]; simp [hk0,hsk,hns,hget,encF,hkk0,hwk,hfl,hbl,q1,q2,mem_u8l]) | (refine T_exit ?_; try simp) | (refine T_cond_t ?_ ?_; · (simp; done)) | (refine T_cond_f ?_ ?_; · (simp; done)) | (rintro _ _ (_ | _) hz9 <;> first | (simp; done) | (simp at hz9; done)) | (refine And.intro ?_ ?_) | (simp only [Post.block_ret, Post.block_exit, Post.block_normal, Post.block_pan, Post.seq_ret, Post.seq_exit, Post.seq_normal, Post.seq_pan]; try simp [hk0,hsk,hns,hget,encF,hkk0,hwk,hfl,hbl,q1,q2,mem_u8l]) | (refine T_draw tOK tmix [([], 0), ([0], 1), ([], 2), ([], 3), ([2, 3], 4), ([2, 3, 4], 5), ([2, 3, 4, 5], 6), ([], 7), ([7], 8), ([7, 8], 9), ([], 10), ([10], 11), ([7, 8, 9, 10, 11], 12), ([2, 3, 4, 5, 6, 7, 8, 9, 10, 11, 12], 13), ([0, 1, 2, 3, 4, 5, 6, 7, 8, 9, 10, 11, 12, 13], 14), ([0, 1, 2, 3, 4, 5, 6, 7, 8, 9, 10, 11, 12, 13, 14], 15), ([0, 1, 2, 3, 4, 5, 6, 7, 8, 9, 10, 11, 12, 13, 14, 15], 16)] 14 (by decide +kernel) ?_; simp [hk0,hsk,hns,hget,encF,hkk0,hwk,hfl,hbl,q1,q2,mem_u8l]) | (refine T_draw tOK tmix [([], 0), ([0], 1), ([0, 1], 2), ([0, 1, 2], 3), ([], 4), ([], 5), ([0, 1, 2, 3, 4, 5], 6)] 6 (by decide +kernel) ?_; simp [hk0,hsk,hns,hget,encF,hkk0,hwk,hfl,hbl,q1,q2,mem_u8l]))
   refine TL_fall 2 [0, 1, 8, 9, 10] (Nat.le_refl _) ?_ ?_ ?_ ?_ (ih (k + 1) _ hdrop' (hP' none) (hlen' none) (hcr none hkk))
   ·simp [Fr.keep]
   ·simp [belowFr, belowB]
   ·rw [hput]; rfl
   ·simp only [belowStore, belowBlk, List.all_cons, encFs_below]; simp [belowL, belowB]
  | some q =>
   have hkl2 : k < keep.length := getElem?_lt hkk
   have hkk0 : decide (k < (ints keep).length) = true := by rw [decide_eq_true_eq]; simpa [ints] using hkl2
   have hik : (ints keep)[k]? = some (i64 q) := by simp [ints, hkk]
   have hq := hk q (List.mem_of_getElem? hkk)
   have hput : mput (.string n) (.agg 72 [.lit ((u8l f.b).take (f.last + min (max q 0) (f.b.length - f.last)).toNat), i64 (f.last + min (max q 0) (f.b.length - f.last))]) (encFs fs) = encFs (dput n (crF f (some q)) fs) := by
    rw [← u8l_take]; exact mput_enc n (crF f (some q)) fs
   have hw1 : IntKind.i64.wrap ((f.b.length : Int) - f.last) = (f.b.length : Int) - f.last := IntWalk.i64_in _ (by omega)
   generalize hL : f.last + min (max q 0) ((f.b.length : Int) - f.last) = L at hput
   have hw2 : IntKind.i64.wrap (f.last + min (max q 0) ((f.b.length : Int) - f.last)) = L := by rw [hL]; exact IntWalk.i64_in _ (by omega)
   have q4 : 0 ≤ L := by omega
   have q5 : L ≤ (f.b.length : Int) := by omega
   clear hq
   refine TL_round ?_
   repeat (first | (refine T_seqk fun K hK => ?_) | (refine T_reg tOK rfl ?_; simp [hk0,hsk,hns,hget,encF,hkk0,hik,hwk,hfl,hbl,hw1,hw2,q1,q2,q4,q5,mem_u8l]) | (refine T_ret ?_; try simp) | (refine T_skip ?_; try simp) | (refine T_blockk fun K hK => ?_) | (with_reducible apply_assumption -exfalso -symm) | (rw [afterRF_ret]; simp [hk0,hsk,hns,hget,encF,hkk0,hik,hwk,hfl,hbl,hw1,hw2,q1,q2,q4,q5,mem_u8l]) | (refine T_exit ?_; try simp) | (refine T_cond_t ?_ ?_; · (simp; done)) | (refine T_cond_f ?_ ?_; · (simp; done)) | (rintro _ _ (_ | _) hz9 <;> first | (simp; done) | (simp at hz9; done)) | (refine And.intro ?_ ?_) | (simp only [Post.block_ret, Post.block_exit, Post.block_normal, Post.block_pan, Post.seq_ret, Post.seq_exit, Post.seq_normal, Post.seq_pan]; try simp [hk0,hsk,hns,hget,encF,hkk0,hik,hwk,hfl,hbl,hw1,hw2,q1,q2,q4,q5,mem_u8l]) | (refine T_draw tOK tmix [([], 0), ([0], 1), ([], 2), ([], 3), ([2, 3], 4), ([2, 3, 4], 5), ([2, 3, 4, 5], 6), ([], 7), ([7], 8), ([7, 8], 9), ([], 10), ([10], 11), ([7, 8, 9, 10, 11], 12), ([2, 3, 4, 5, 6, 7, 8, 9, 10, 11, 12], 13), ([0, 1, 2, 3, 4, 5, 6, 7, 8, 9, 10, 11, 12, 13], 14), ([0, 1, 2, 3, 4, 5, 6, 7, 8, 9, 10, 11, 12, 13, 14], 15), ([0, 1, 2, 3, 4, 5, 6, 7, 8, 9, 10, 11, 12, 13, 14, 15], 16)] 14 (by decide +kernel) ?_; simp [hk0,hsk,hns,hget,encF,hkk0,hik,hwk,hfl,hbl,hw1,hw2,q1,q2,q4,q5,mem_u8l]) | (refine T_draw tOK tmix [([], 0), ([0], 1), ([0, 1], 2), ([0, 1, 2], 3), ([], 4), ([], 5), ([0, 1, 2, 3, 4, 5], 6)] 6 (by decide +kernel) ?_; simp [hk0,hsk,hns,hget,encF,hkk0,hik,hwk,hfl,hbl,hw1,hw2,q1,q2,q4,q5,mem_u8l]))
   refine TL_fall 2 [0, 1, 8, 9, 10] (Nat.le_refl _) ?_ ?_ ?_ ?_ (ih (k + 1) _ hdrop' (hP' (some q)) (hlen' (some q)) (hcr (some q) hkk))
   ·simp [Fr.keep]
   ·simp [belowFr, belowB]
   ·rw [hput]; rfl
   ·simp only [belowStore, belowBlk, List.all_cons, encFs_below]; simp [belowL, belowB]
end
end Go.Proofs.YtdplbgfokoajjaaGreat
end
section
set_option linter.unusedVariables false
set_option linter.unusedSimpArgs false
set_option maxRecDepth 20000
namespace Go.Proofs.YtdplbgfokoajjaaGreat
open Go
structure Inv (d : Dk) : Prop where
 room0 : 0 ≤ d.room
 room1 : d.room ≤ 1048576
 n : d.files.length ≤ 64
 fit : (used d.files : Int) ≤ d.room
 fl : ∀ p ∈ d.files, 0 ≤ p.2.last ∧ p.2.last ≤ p.2.b.length
 nm : ∀ p ∈ d.files, p.1.length ≤ 16
 key : d.files.Pairwise fun p q => p.1 ≠ q.1
 fuse0 : -1 ≤ d.fuse
 fuse1 : d.fuse ≤ 9223372036854775807
 fail0 : 0 ≤ d.fail
 fail1 : d.fail ≤ 9223372036854775807
def sync (d : Dk) (s : ByteArray) : Int × Dk :=
 if d.fuse == 0 then (42, d) else match dget s.data.toList d.files with
 | none => (3, burn d)
 | some f => if 0 < d.fail then (41, { burn d with fail := d.fail - 1 }) else (0, { burn d with files := dput s.data.toList { f with last := f.b.length } d.files })
def delete (d : Dk) (s : ByteArray) : Int × Dk :=
 if d.fuse == 0 then (42, d) else match dget s.data.toList d.files with
 | none => (3, burn d)
 | some f => (0, { burn d with files := ddel s.data.toList d.files })
def rename (d : Dk) (s t : ByteArray) : Int × Dk :=
 if d.fuse == 0 then (42, d) else if named t = false then (1, burn d) else match dget s.data.toList d.files with
 | none => (3, burn d)
 | some f => (0, { burn d with files := dput t.data.toList f (ddel s.data.toList d.files) })
def write (d : Dk) (s : ByteArray) (b : List UInt8) : Int × Dk :=
 if d.fuse == 0 then (42, d) else if named s = false then (1, burn d) else match dget s.data.toList d.files with
 | none => if 64 ≤ d.files.length then (5, burn d) else if d.room - used d.files < b.length then (5, burn d) else (0, { burn d with files := dput s.data.toList ⟨b, 0⟩ d.files })
 | some f => if d.room - used d.files < b.length then (5, burn d) else (0, { burn d with files := dput s.data.toList { f with b := f.b ++ b } d.files })
def setFuse (d : Dk) (n : Int) : Dk := { d with fuse := max n (-1) }
def setFail (d : Dk) (n : Int) : Dk := { d with fail := max n 0 }
def crash (d : Dk) (keep : List Int) : Dk := { d with files := crFs keep 0 (names d) d.files, fuse := -1, fail := 0 }
theorem dget_mem {n : List UInt8} {f : Fl} {l : List (List UInt8 × Fl)} (h : dget n l = some f) : (n, f) ∈ l := by
 unfold dget at h
 simp only [Option.map_eq_some_iff] at h
 obtain ⟨p, hp, rfl⟩ := h
 have h1 := List.find?_some hp
 have h2 := List.mem_of_find?_eq_some hp
 simp only [beq_iff_eq] at h1
 rw [← h1]; exact h2
theorem len_le_used {n : List UInt8} {f : Fl} : ∀ {l : List (List UInt8 × Fl)}, (n, f) ∈ l → f.b.length ≤ used l
 | p :: l, h => by
  simp only [used, List.map_cons, List.sum_cons]
  rcases List.mem_cons.1 h with rfl | h
  ·exact Nat.le_add_right _ _
  ·have := len_le_used h
   simp only [used] at this; omega
theorem dget_some_of {n : List UInt8} {l : List (List UInt8 × Fl)} (h : n ∈ l.map (·.1)) : ∃ f, dget n l = some f := by
 obtain ⟨p, hp, rfl⟩ := List.mem_map.1 h
 unfold dget
 cases hf : l.find? fun q => q.1 == p.1 with
 | some q => exact ⟨q.2, rfl⟩
 | none => have := List.find?_eq_none.1 hf p hp; simp at this
theorem mem_names {d : Dk} {n : List UInt8} : n ∈ names d ↔ n ∈ d.files.map (·.1) := by
 unfold names
 exact List.mem_mergeSort
theorem names_len (d : Dk) : (names d).length = d.files.length := by simp [names]
namespace Inv
variable {d : Dk}
theorem flOK (h : Inv d) {n : List UInt8} {f : Fl} (hg : dget n d.files = some f) : FlOK f := by
 have hm := dget_mem hg
 have h1 := h.fl _ hm
 have h2 := len_le_used hm
 have h3 := h.fit
 have h4 := h.room1
 exact ⟨h1.1, h1.2, by omega⟩
theorem wfuse (h : Inv d) : IntKind.i64.wrap (d.fuse - 1) = d.fuse - 1 := IntWalk.i64_in _ (by have := h.fuse0; have := h.fuse1; omega)
theorem wfail (h : Inv d) : IntKind.i64.wrap (d.fail - 1) = d.fail - 1 := IntWalk.i64_in _ (by have := h.fail0; have := h.fail1; omega)
theorem usedlt (h : Inv d) : Proofs.YtdplbgfokoajjaaGreat.used d.files < 1000000000 := by have := h.fit; have := h.room1; omega
theorem wroom (h : Inv d) : IntKind.i64.wrap (d.room - Proofs.YtdplbgfokoajjaaGreat.used d.files) = d.room - Proofs.YtdplbgfokoajjaaGreat.used d.files := IntWalk.i64_in _ (by have := h.fit; have := h.room0; have := h.room1; omega)
theorem enclen (h : Inv d) : (encFs d.files).length < 1000000 := by have := h.n; simp only [encFs, List.length_map]; omega
theorem enclen' (h : Inv d) (n : List UInt8) : (encFs (ddel n d.files)).length < 1000000 := by have := h.n; have := ddel_len n d.files; simp only [encFs, List.length_map]; omega
end Inv
section
variable {R : Re → Store → Prop} {d : Dk} {s t : ByteArray} {b : List UInt8} {keep : List Int}
theorem C_sync (hI : Inv d) (hs : s.size ≤ maxLen) (h : R (.ret (i64 (sync d s).1)) (dkS (sync d s).2)) : C tE 25 [.ptr 0 0 0 [], .str s] (dkS d) R := by
 unfold sync at h
 cases hf : d.fuse == 0 with
 | true => rw [hf] at h; exact C_sync_dead hs (by simpa using hf) h
 | false =>
  rw [hf] at h
  cases hg : dget s.data.toList d.files with
  | none => rw [hg] at h; exact C_sync_none hs hf hI.wfuse hg h
  | some f =>
   rw [hg] at h
   by_cases hp : 0 < d.fail
   ·simp only [hp, if_true] at h; exact C_sync_fail hs hf hI.wfuse hg (by simpa using hp) hI.wfail h
   ·simp only [hp, if_false] at h; exact C_sync_ok hs hI.enclen hf hI.wfuse hg (by simpa using hp) h
theorem C_delete (hI : Inv d) (hs : s.size ≤ maxLen) (h : R (.ret (i64 (delete d s).1)) (dkS (delete d s).2)) : C tE 27 [.ptr 0 0 0 [], .str s] (dkS d) R := by
 unfold delete at h
 cases hf : d.fuse == 0 with
 | true => rw [hf] at h; exact C_delete_dead hs (by simpa using hf) h
 | false =>
  rw [hf] at h
  cases hg : dget s.data.toList d.files with
  | none => rw [hg] at h; exact C_delete_none hs hf hI.wfuse hg h
  | some f => rw [hg] at h; exact C_delete_ok hs hf hI.wfuse hg h
theorem named_size (h : named s = true) : s.size ≤ 16 := by
 unfold named at h
 simp only [Bool.and_eq_true, decide_eq_true_eq] at h
 have := h.1.2; omega
theorem C_rename (hI : Inv d) (hs : s.size ≤ maxLen) (h : R (.ret (i64 (rename d s t).1)) (dkS (rename d s t).2)) : C tE 26 [.ptr 0 0 0 [], .str s, .str t] (dkS d) R := by
  unfold rename at h
  cases hf : d.fuse == 0 with
  | true => rw [hf] at h; exact C_rename_dead (by simpa using hf) h
  | false =>
    rw [hf] at h
    cases hn : named t with
    | false => rw [hn] at h; exact C_rename_arg hf hI.wfuse hn h
    | true =>
      have ht : t.size ≤ maxLen := by have := named_size hn; have : 16 ≤ maxLen := by decide
                                      omega
      rw [hn] at h
      cases hg : dget s.data.toList d.files with
      | none => rw [hg] at h; exact C_rename_none hs hf hI.wfuse hn hg h
      | some f => rw [hg] at h; exact C_rename_ok hs ht (hI.enclen' _) hf hI.wfuse hn hg h
theorem C_write (hI : Inv d) (hs : s.size ≤ maxLen) (h : R (.ret (i64 (write d s b).1)) (dkS (write d s b).2)) : C tE 30 [.ptr 0 0 0 [], .str s, u8s b] (dkS d) R := by
 unfold write at h
 have hu := hI.fit
 have hr := hI.room1
 cases hf : d.fuse == 0 with
 | true => rw [hf] at h; exact C_write_dead (by simpa using hf) h
 | false =>
  rw [hf] at h
  cases hn : named s with
  | false => rw [hn] at h; exact C_write_arg hs hf hI.wfuse hn h
  | true =>
   rw [hn] at h
   cases hg : dget s.data.toList d.files with
   | none =>
    rw [hg] at h
    by_cases hc : 64 ≤ d.files.length
    ·simp only [hc, if_true] at h
     exact C_write_full0 hs hf hI.wfuse hn hg (by simpa [encFs] using hc) h
    ·simp only [hc, if_false] at h
     have hc' : decide (64 ≤ ((encFs d.files).length : Int)) = false := by rw [decide_eq_false_iff_not]; simp only [encFs, List.length_map]; omega
     by_cases hb : d.room - used d.files < b.length
     ·simp only [hb, if_true] at h
      exact C_write_full1 hs hf hI.wfuse hn hg hc' hI.usedlt hI.wroom (by simpa using hb) h
     ·simp only [hb, if_false] at h
      exact C_write_ok0 hs hf hI.wfuse hn hg hc' hI.usedlt hI.wroom (by simpa using hb) hI.enclen (by simp; omega) h
   | some f =>
    rw [hg] at h
    have hfl := len_le_used (dget_mem hg)
    by_cases hb : d.room - used d.files < b.length
    ·simp only [hb, if_true] at h
     exact C_write_full2 hs hf hI.wfuse hn hg hI.usedlt hI.wroom (by simpa using hb) h
    ·simp only [hb, if_false] at h
     exact C_write_ok1 hs hf hI.wfuse hn hg hI.usedlt hI.wroom (by simpa using hb) hI.enclen (by omega) h
theorem C_crash' (hI : Inv d) (hk : ∀ k ∈ keep, k ≤ 9223372036854775807) (hkl : keep.length ≤ 9223372036854775807) (h : R (.ret (.tup [])) (dkS (crash d keep))) : C tE 29 [.ptr 0 0 0 [], .lit (ints keep)] (dkS d) R := by
 have h16 : 16 ≤ maxLen := by decide
 refine C_crash (by have := hI.n; omega) (fun n hn => ?_) (fun n hn => ?_) hk hkl h
 ·obtain ⟨p, hp, rfl⟩ := List.mem_map.1 (mem_names.1 hn)
  exact Nat.le_trans (hI.nm p hp) h16
 ·obtain ⟨f, hf⟩ := dget_some_of (mem_names.1 hn)
  exact ⟨f, hf, hI.flOK hf⟩
end
end Go.Proofs.YtdplbgfokoajjaaGreat
end
section
set_option maxRecDepth 20000
set_option linter.unusedVariables false
set_option linter.unusedSimpArgs false
namespace Go.Proofs.YtdplbgfokoajjaaGreat
open Go
theorem mem_dins {x p : List UInt8 × Fl} : ∀ {l}, p ∈ dins x l ↔ p = x ∨ p ∈ l
 | [] => by simp [dins]
 | y :: l => by
  simp only [dins]
  split
  ·simp
  ·simp only [List.mem_cons, mem_dins (l := l)]
   constructor
   ·rintro (h | h | h) <;> simp [h]
   ·rintro (h | h | h) <;> simp [h]
theorem mem_ddel {n : List UInt8} {p : List UInt8 × Fl} {l : List (List UInt8 × Fl)} : p ∈ ddel n l ↔ p ∈ l ∧ p.1 ≠ n := by simp [ddel]
theorem mem_dput {n : List UInt8} {f : Fl} {p : List UInt8 × Fl} {l : List (List UInt8 × Fl)} : p ∈ dput n f l ↔ p = (n, f) ∨ (p ∈ l ∧ p.1 ≠ n) := by
 unfold dput
 rw [mem_dins, mem_ddel]
abbrev Keys (l : List (List UInt8 × Fl)) : Prop := l.Pairwise fun p q => p.1 ≠ q.1
theorem keys_dins {x : List UInt8 × Fl} : ∀ {l}, (∀ p ∈ l, p.1 ≠ x.1) → Keys l → Keys (dins x l)
 | [], _, _ => by simp [dins]
 | y :: l, h, hk => by
  obtain ⟨h1, h2⟩ := List.pairwise_cons.1 hk
  simp only [dins]
  split
  ·exact List.pairwise_cons.2 ⟨fun p hp => (h p hp).symm, hk⟩
  ·refine List.pairwise_cons.2 ⟨fun p hp => ?_, keys_dins (fun p hp => h p (by simp [hp])) h2⟩
   rcases mem_dins.1 hp with rfl | hp
   ·exact h y (by simp)
   ·exact h1 p hp
theorem keys_ddel {n : List UInt8} {l : List (List UInt8 × Fl)} (h : Keys l) : Keys (ddel n l) := h.filter _
theorem keys_dput {n : List UInt8} {f : Fl} {l : List (List UInt8 × Fl)} (h : Keys l) : Keys (dput n f l) := keys_dins (fun p hp => (mem_ddel.1 hp).2) (keys_ddel h)
theorem used_dins (x : List UInt8 × Fl) : ∀ l, used (dins x l) = used l + x.2.b.length
 | [] => by simp [dins, used]
 | y :: l => by
  have ih := used_dins x l
  simp only [dins]
  split
  ·simp [used]; omega
  ·simp only [used, List.map_cons, List.sum_cons] at ih ⊢; omega
theorem used_ddel_none {n : List UInt8} : ∀ {l : List (List UInt8 × Fl)}, dget n l = none → ddel n l = l
 | [], _ => rfl
 | y :: l, h => by
  unfold dget at h
  simp only [Option.map_eq_none_iff, List.find?_eq_none] at h
  unfold ddel
  exact List.filter_eq_self.2 fun p hp => by have := h p hp; simpa using this
theorem used_ddel {n : List UInt8} {f : Fl} : ∀ {l : List (List UInt8 × Fl)}, Keys l → dget n l = some f → used (ddel n l) + f.b.length = used l ∧ (ddel n l).length + 1 = l.length
 | [], _, h => by simp [dget] at h
 | y :: l, hk, h => by
  obtain ⟨h1, h2⟩ := List.pairwise_cons.1 hk
  by_cases e : y.1 = n
  ·have hf : y.2 = f := by simpa [dget, e] using h
   have hnone : ddel n l = l := by
    unfold ddel
    exact List.filter_eq_self.2 fun p hp => by have := h1 p hp; rw [e] at this; simpa using Ne.symm this
   have hd : ddel n (y :: l) = l := by
    have : (y.1 == n) = true := by simp [e]
    unfold ddel at hnone ⊢
    simp only [List.filter_cons, this, Bool.not_true, Bool.false_eq_true, if_false]
    exact hnone
   rw [hd]
   subst hf
   simp [used]; omega
  ·have hb : (y.1 == n) = false := by simp [e]
   have hg : dget n l = some f := by simpa [dget, List.find?_cons, hb] using h
   obtain ⟨i1, i2⟩ := used_ddel h2 hg
   have hd : ddel n (y :: l) = y :: ddel n l := by unfold ddel; simp [List.filter_cons, hb]
   rw [hd]
   simp only [used, List.map_cons, List.sum_cons, List.length_cons] at i1 ⊢
   omega
theorem used_dput_none {n : List UInt8} {f : Fl} {l : List (List UInt8 × Fl)} (h : dget n l = none) : used (dput n f l) = used l + f.b.length ∧ (dput n f l).length = l.length + 1 := by
 unfold dput
 rw [used_dins, dins_len, used_ddel_none h]; exact ⟨rfl, rfl⟩
theorem used_dput {n : List UInt8} {f g : Fl} {l : List (List UInt8 × Fl)} (hk : Keys l) (h : dget n l = some f) : used (dput n g l) + f.b.length = used l + g.b.length ∧ (dput n g l).length = l.length := by
 obtain ⟨h1, h2⟩ := used_ddel hk h
 unfold dput
 rw [used_dins, dins_len]; simp only; omega
variable {d : Dk} {s t : ByteArray} {b : List UInt8} {keep : List Int}
theorem Inv.burn (h : Inv d) : Inv (burn d) := by
 have h1 := h.fuse0; have h2 := h.fuse1
 exact ⟨h.room0, h.room1, h.n, h.fit, h.fl, h.nm, h.key, by simp only [Proofs.YtdplbgfokoajjaaGreat.burn]; omega, by simp only [Proofs.YtdplbgfokoajjaaGreat.burn]; omega, h.fail0, h.fail1⟩
theorem Inv.files {fs : List (List UInt8 × Fl)} (h : Inv d) (hn : fs.length ≤ 64) (hu : (used fs : Int) ≤ d.room) (hf : ∀ p ∈ fs, 0 ≤ p.2.last ∧ p.2.last ≤ p.2.b.length) (hm : ∀ p ∈ fs, p.1.length ≤ 16) (hk : Keys fs) : Inv { d with files := fs } :=
 ⟨h.room0, h.room1, hn, hu, hf, hm, hk, h.fuse0, h.fuse1, h.fail0, h.fail1⟩
theorem Inv.setFuse (h : Inv d) {n : Int} (hn : n ≤ 9223372036854775807) : Inv (setFuse d n) :=
 ⟨h.room0, h.room1, h.n, h.fit, h.fl, h.nm, h.key, by simp only [Proofs.YtdplbgfokoajjaaGreat.setFuse]; omega, by simp only [Proofs.YtdplbgfokoajjaaGreat.setFuse]; omega, h.fail0, h.fail1⟩
theorem Inv.setFail (h : Inv d) {n : Int} (hn : n ≤ 9223372036854775807) : Inv (setFail d n) :=
 ⟨h.room0, h.room1, h.n, h.fit, h.fl, h.nm, h.key, h.fuse0, h.fuse1, by simp only [Proofs.YtdplbgfokoajjaaGreat.setFail]; omega, by simp only [Proofs.YtdplbgfokoajjaaGreat.setFail]; omega⟩
theorem Inv.put_some {n : List UInt8} {f g : Fl} (h : Inv d) (hg : dget n d.files = some f) (hl : (used d.files : Int) + g.b.length ≤ d.room + f.b.length) (h0 : 0 ≤ g.last ∧ g.last ≤ g.b.length) : Inv { d with files := dput n g d.files } := by
 obtain ⟨h1, h2⟩ := used_dput (g := g) h.key hg
 refine h.files (by rw [h2]; exact h.n) (by omega) (fun p hp => ?_) (fun p hp => ?_) (keys_dput h.key)
 ·rcases mem_dput.1 hp with rfl | ⟨hp, _⟩
  ·exact h0
  ·exact h.fl p hp
 ·rcases mem_dput.1 hp with rfl | ⟨hp, _⟩
  ·exact h.nm (n, f) (dget_mem hg)
  ·exact h.nm p hp
theorem Inv.put_none {n : List UInt8} {g : Fl} (h : Inv d) (hg : dget n d.files = none) (hc : d.files.length < 64) (hl : (used d.files : Int) + g.b.length ≤ d.room) (h0 : 0 ≤ g.last ∧ g.last ≤ g.b.length) (hn : n.length ≤ 16) : Inv { d with files := dput n g d.files } := by
 obtain ⟨h1, h2⟩ := used_dput_none (f := g) hg
 refine h.files (by rw [h2]; exact hc) (by omega) (fun p hp => ?_) (fun p hp => ?_) (keys_dput h.key)
 ·rcases mem_dput.1 hp with rfl | ⟨hp, _⟩
  ·exact h0
  ·exact h.fl p hp
 ·rcases mem_dput.1 hp with rfl | ⟨hp, _⟩
  ·exact hn
  ·exact h.nm p hp
theorem Inv.del {n : List UInt8} {f : Fl} (h : Inv d) (hg : dget n d.files = some f) : Inv { d with files := ddel n d.files } := by
 obtain ⟨h1, h2⟩ := used_ddel h.key hg
 have := h.n; have := h.fit
 exact h.files (by omega) (by omega) (fun p hp => h.fl p (mem_ddel.1 hp).1) (fun p hp => h.nm p (mem_ddel.1 hp).1) (keys_ddel h.key)
theorem Inv.sync (h : Inv d) : Inv (sync d s).2 := by
 unfold Proofs.YtdplbgfokoajjaaGreat.sync
 split
 ·exact h
 ·split
  ·exact h.burn
  ·rename_i f hg
   have hb := h.burn
   split
   ·have := h.fail0; have := h.fail1
    exact ⟨hb.room0, hb.room1, hb.n, hb.fit, hb.fl, hb.nm, hb.key, hb.fuse0, hb.fuse1, by show (0 : Int) ≤ d.fail - 1; omega, by show d.fail - 1 ≤ _; omega⟩
   ·have hF := h.flOK hg
    have hu := h.fit
    exact hb.put_some (f := f) (g := { f with last := f.b.length }) hg (by show (used d.files : Int) + f.b.length ≤ d.room + f.b.length; omega) ⟨by simp, by simp⟩
theorem Inv.delete (h : Inv d) : Inv (delete d s).2 := by
 unfold Proofs.YtdplbgfokoajjaaGreat.delete
 split
 ·exact h
 ·split
  ·exact h.burn
  ·rename_i f hg
   exact h.burn.del (f := f) hg
theorem named_len (h : named t = true) : t.data.toList.length ≤ 16 := by
 have := named_size h
 simpa using this
theorem dget_ddel_self (n : List UInt8) (l : List (List UInt8 × Fl)) : dget n (ddel n l) = none := by rw [dget_ddel]; simp
theorem Inv.rename (h : Inv d) : Inv (rename d s t).2 := by
 unfold Proofs.YtdplbgfokoajjaaGreat.rename
 split
 ·exact h
 ·split
  ·exact h.burn
  ·rename_i hn
   simp only [Bool.not_eq_false] at hn
   split
   ·exact h.burn
   ·rename_i f hg
    have hd := h.burn.del (f := f) hg
    obtain ⟨u1, u2⟩ := used_ddel h.key hg
    have hu := h.fit; have hn64 := h.n
    have hF := h.flOK hg
    cases hg2 : dget t.data.toList (ddel s.data.toList d.files) with
    | none => exact hd.put_none (g := f) hg2 (by show (ddel s.data.toList d.files).length < 64; omega) (by show (used (ddel s.data.toList d.files) : Int) + f.b.length ≤ d.room; omega) ⟨hF.lo, hF.hi⟩ (named_len hn)
    | some g => exact hd.put_some (f := g) (g := f) hg2 (by show (used (ddel s.data.toList d.files) : Int) + f.b.length ≤ d.room + g.b.length; omega) ⟨hF.lo, hF.hi⟩
theorem Inv.write (h : Inv d) : Inv (write d s b).2 := by
 unfold Proofs.YtdplbgfokoajjaaGreat.write
 split
 ·exact h
 ·split
  ·exact h.burn
  ·rename_i hn
   simp only [Bool.not_eq_false] at hn
   split
   ·rename_i hg
    split
    ·exact h.burn
    ·split
     ·exact h.burn
     ·exact h.burn.put_none (g := ⟨b, 0⟩) hg (by show d.files.length < 64; omega) (by show (used d.files : Int) + b.length ≤ d.room; omega) ⟨by simp, by simp⟩ (named_len hn)
   ·rename_i f hg
    have hF := h.flOK hg
    split
    ·exact h.burn
    ·refine h.burn.put_some (f := f) (g := { f with b := f.b ++ b }) hg ?_ ⟨hF.lo, ?_⟩
     ·show (used d.files : Int) + (f.b ++ b).length ≤ d.room + f.b.length
      simp only [List.length_append]; omega
     ·show f.last ≤ ((f.b ++ b).length : Nat)
      have := hF.hi
      simp only [List.length_append]; omega
theorem crF_len (f : Fl) (k : Option Int) : (crF f k).b.length ≤ f.b.length := by
 unfold crF
 split <;> simp [List.length_take] <;> omega
theorem Inv.crFs (keep : List Int) : ∀ (ns : List (List UInt8)) (i : Nat) (d : Dk), Inv d → Inv { d with files := crFs keep i ns d.files }
 | [], i, d, h => h
 | n :: ns, i, d, h => by
  simp only [Proofs.YtdplbgfokoajjaaGreat.crFs]
  cases hg : dget n d.files with
  | none => exact Inv.crFs keep ns (i + 1) d h
  | some f =>
   have hF := h.flOK hg
   have hc := crF_ok hF keep[i]?
   have hl := crF_len f keep[i]?
   have hu := h.fit
   exact Inv.crFs keep ns (i + 1) { d with files := dput n (crF f keep[i]?) d.files } (h.put_some (f := f) hg (by omega) ⟨hc.lo, hc.hi⟩)
theorem Inv.crash (h : Inv d) : Inv (crash d keep) := by
 have h1 := Inv.crFs keep (names d) 0 d h
 exact ⟨h1.room0, h1.room1, h1.n, h1.fit, h1.fl, h1.nm, h1.key, by simp [Proofs.YtdplbgfokoajjaaGreat.crash], by simp [Proofs.YtdplbgfokoajjaaGreat.crash], by simp [Proofs.YtdplbgfokoajjaaGreat.crash], by simp [Proofs.YtdplbgfokoajjaaGreat.crash]⟩
structure OpV where
 what : Int
 name : ByteArray
 to : ByteArray
 b : List UInt8
 n : Int
 keep : List Int
structure OpV.OK (o : OpV) : Prop where
 name : o.name.size ≤ maxLen
 to : o.to.size ≤ maxLen
 n : o.n ≤ 9223372036854775807
 keep : ∀ k ∈ o.keep, k ≤ 9223372036854775807
 keepl : o.keep.length ≤ 9223372036854775807
 b : o.b.length ≤ 9223372036854775807
def doOp (d : Dk) (o : OpV) : Int × Dk :=
 if o.what == 3 || o.what == 4 then sync d o.name
 else if o.what == 5 then rename d o.name o.to
 else if o.what == 6 then delete d o.name
 else if o.what == 7 then (0, setFuse d o.n)
 else if o.what == 8 then (0, setFail d o.n)
 else if o.what == 9 then (0, crash d o.keep)
 else write d o.name o.b
theorem Inv.doOp {o : OpV} (h : Inv d) (ho : o.OK) : Inv (doOp d o).2 := by
 unfold Proofs.YtdplbgfokoajjaaGreat.doOp
 split
 ·exact h.sync
 split
 ·exact h.rename
 split
 ·exact h.delete
 split
 ·exact h.setFuse ho.n
 split
 ·exact h.setFail ho.n
 split
 ·exact h.crash
 exact h.write
theorem Inv.new {n : Int} (h0 : 0 ≤ n) (h1 : n ≤ 1048576) : Inv ⟨n, [], -1, 0⟩ :=
 ⟨h0, h1, by simp, by simpa [Proofs.YtdplbgfokoajjaaGreat.used] using h0, by simp, by simp, by simp, by simp, by simp, by simp, by simp⟩
end Go.Proofs.YtdplbgfokoajjaaGreat
end
