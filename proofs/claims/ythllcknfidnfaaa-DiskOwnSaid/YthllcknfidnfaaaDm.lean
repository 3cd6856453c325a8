/- Package disk: Used. -/
import Derived.Test.YthllcknfidnfaaaDk
import Derived.Test.YthllcknfidnfaaaSad
import Derived.IntWalk
set_option linter.unusedVariables false
set_option linter.unusedSimpArgs false
set_option maxRecDepth 4000
namespace Go.Proofs.Ythllcknfidnfaaa
open Go
attribute [local simp] RF_nil RF_cons afterRF_ret nilCmp sop sGuard isCall sCallee Fr.eval Fr.get Fr.put ofConst sLoad sStore sBuiltin Fr.args bodyQ sRes oneOf sBin sInt sUn
attribute [local simp] RD_nil RD_cons noConf clear accAdd Tab.pr Tab.slot foot wid idOf refId Op.operands Call.operands sFieldAddr sNilCheck sLookup keyLit sMapSet sMapDel sLen Store.at Store.new getP setP typeAt fits evalParts sBuildSlice sFill sList sApp sAppend frzRe frz pureB pureL
attribute [local simp] dkB dkS u8s

def tot (fs : List (List UInt8 × Fl)) (g : List UInt8 → Bool) : Nat := ((fs.filter fun p => g p.1).map fun p => p.2.b.length).sum
/-- How many bytes there are. -/
def used (fs : List (List UInt8 × Fl)) : Nat := (fs.map fun p => p.2.b.length).sum
theorem tot_cons (p : List UInt8 × Fl) (fs : List (List UInt8 × Fl)) (g : List UInt8 → Bool) : tot (p :: fs) g = (if g p.1 then p.2.b.length else 0) + tot fs g := by
  unfold tot
  simp only [List.filter_cons]
  split <;> simp
theorem tot_le (g : List UInt8 → Bool) : ∀ fs, tot fs g ≤ used fs
  | [] => by simp [tot, used]
  | p :: fs => by
    have := tot_le g fs
    rw [tot_cons]
    simp only [used, List.map_cons, List.sum_cons] at this ⊢
    split <;> omega
theorem tot_all {g : List UInt8 → Bool} (h : ∀ n, g n = true) (fs : List (List UInt8 × Fl)) : tot fs g = used fs := by
  unfold tot used
  rw [List.filter_eq_self.2 fun p _ => h p.1]
theorem tot_none {g : List UInt8 → Bool} (fs : List (List UInt8 × Fl)) (h : ∀ p ∈ fs, g p.1 = false) : tot fs g = 0 := by
  unfold tot
  rw [List.filter_eq_nil_iff.2 fun p hp => by simp [h p hp]]; rfl
theorem tot_congr {g g' : List UInt8 → Bool} : ∀ fs : List (List UInt8 × Fl), (∀ p ∈ fs, g p.1 = g' p.1) → tot fs g = tot fs g'
  | [], _ => rfl
  | p :: fs, h => by rw [tot_cons, tot_cons, h p (by simp), tot_congr fs fun q hq => h q (by simp [hq])]
theorem tot_one {n : List UInt8} {f : Fl} {g : List UInt8 → Bool} (hg : g n = false) : ∀ fs : List (List UInt8 × Fl), fs.Pairwise (fun p q => p.1 ≠ q.1) → dget n fs = some f → tot fs (fun m => g m || m == n) = tot fs g + f.b.length
  | [], _, h => by simp [dget] at h
  | p :: fs, hp, h => by
    obtain ⟨h1, h2⟩ := List.pairwise_cons.1 hp
    rw [tot_cons, tot_cons]
    by_cases e : p.1 = n
    · have hf : p.2 = f := by simpa [dget, e] using h
      subst e; subst hf
      have := tot_congr (g := fun m => g m || m == p.1) (g' := g) fs fun q hq => by
        have := h1 q hq
        simp [Ne.symm this]
      rw [this]
      simp [hg]; omega
    · have hd : dget n fs = some f := by simpa [dget, List.find?_cons, e] using h
      have := tot_one hg fs h2 hd
      rw [this]
      simp [e]; omega

structure UsedSt (cx1 : Cx) (r b n : Nat) (ds : List (Lit × DataW Value)) (fs : List (List UInt8 × Fl)) (dl : List Deferred) (left : Lit → Bool) (cnt : Nat) (a : Act) (w : World) : Prop where
  sz : a.tmps.size = 21
  it : a.tmps[10]? = some (.pointer (some ⟨r, 0, none⟩))
  acc : a.tmps[3]? = some (.int .i64 (tot fs fun n => !left (.string n)))
  dl : a.defers = dl
  rg : w.ranges tE.P 9 asHeld b r n (.map ds) left cnt
  bl : RowKit.Below cx1.w.heap.size cx1.w w
  nw : cx1.w.heap.size ≤ r

theorem getD_of {a : Array Value} {t : Nat} {v : Value} (h : a[t]? = some v) : a.getD t undef = v := by simp [Array.getD_eq_getD_getElem?, h]
section
variable {R : Re → Store → Prop} {d : Dk}
set_option maxHeartbeats 1000000 in
theorem C_used (hl : used d.files < 1000000000) (h : R (.ret (i64 (used d.files))) (dkS d)) : C tE 12 [.ptr 0 0 0 []] (dkS d) R := by
  refine C_bodyk tOK Try.func12 rfl (Nat.le_of_ble_eq_true rfl) fun K hK => ?_; simp
  refine T_seqk fun K1 hK1 => ?_
  refine T_reg tOK rfl ?_
  simp
  apply hK1
  refine T_seqk fun K2 hK2 => ?_
  refine T_reg tOK rfl ?_
  simp
  apply hK2
  refine T_seqk fun K3 hK3 => ?_
  have hfin : ∀ fr, Fr.get fr 3 = some (i64 (used d.files)) → K3 fr (dkS d) := fun fr hfr => by
    apply hK3
    repeat (first | (refine T_seqk fun K hK => ?_) | (refine T_reg tOK rfl ?_; simp [hfr]) | (refine T_ret ?_; try simp) | (refine T_skip ?_; try simp) | (refine T_blockk fun K hK => ?_) | apply_assumption -exfalso -symm | (rw [afterRF_ret]; simp [hfr]) | (refine T_exit ?_; try simp) | (refine T_cond_t ?_ ?_; · (simp; done)) | (refine T_cond_f ?_ ?_; · (simp; done)) | (rintro _ _ (_ | _) hz9 <;> first | (simp; done) | (simp at hz9; done)) | (refine And.intro ?_ ?_) | (simp only [Post.block_ret, Post.block_exit, Post.block_normal, Post.block_pan, Post.seq_ret, Post.seq_exit, Post.seq_normal, Post.seq_pan]; try simp [hfr]) | (refine T_loop (TL_round ?_)) | (refine TL_round ?_))
  clear hK3 h
  intro cx a ht hn hf
  refine wp_seq ?_
  refine wp_region_list ?_
  refine wpList_split (K := fun fr' σ' => σ' = dkS d ∧ Fr.get fr' 9 = some (.map 1) ∧ Fr.get fr' 3 = some (i64 0)) tOK 4 _ rfl ht hn hf (by simp) ?_
  rintro fr' σ' cx1 a1 ⟨rfl, h9, h3⟩ hn1 hf1 hd1 hs1
  show wpList _ _ _ [_] _ _
  obtain ⟨m, ds, k1, k2, k3, k4, hown, hml⟩ := hn1.mp (b := 1) rfl (hf1.2 9 _ h9).2
  have hstr : tE.P.underlying 9 = some .string := tOK.td 9 rfl
  have hkd := Maps.string_keyed hstr
  have hund : tE.P.underlying 52 = some (.map 9 56) := (tOK.td 52 rfl).1
  refine wpList_range_own _ rfl (.tmp 9) 52 rfl 9 56 hkd hund asHeld m.blk ds.length (.map ds) k4 hown ?_
  intro w1 hrg hg hsz
  refine wpList_nil ?_
  show Code.wp _ (Code.block 0 _) _ _ _
  refine wp_block (HeadW.loop ?_)
  have hpw : (d.files : List (List UInt8 × Fl)).Pairwise (fun p q => p.1 ≠ q.1) := by
    obtain ⟨es, h1, h2, _⟩ := hown.entries hkd
    cases h1
    have hk := hml.keys
    have : (ds.map (·.1)).Pairwise (· ≠ ·) := List.pairwise_map.2 h2
    rw [hk] at this
    have := List.pairwise_map.1 (List.pairwise_map.1 this)
    exact this.imp fun h e => h (by simp [e])
  have hsz1 : a1.tmps.size = 21 := hf1.1
  have init : UsedSt cx1 cx1.w.heap.size m.blk ds.length ds d.files a1.defers (Maps.has (.map ds)) (Maps.size (.map ds)) (a1.put (some 10) (.pointer (some ⟨cx1.w.heap.size, 0, none⟩))) w1 := by
    refine ⟨by simp [Act.put, hsz1], by simp [Act.put, hsz1], ?_, rfl, hrg, ⟨hg.os, hg.tape, hg.output, hg.size, fun k hk => hg.block k hk (by simp)⟩, Nat.le_refl _⟩
    have h0 : tot d.files (fun n => !Maps.has (.map ds) (.string n)) = 0 := tot_none _ fun p hp => by
      rcases hml.get (.string p.1) with ⟨_, _, _, _, g3, _⟩ | ⟨g1, _, _⟩
      · simp [g3]
      · rw [mget_enc] at g1
        simp only [Option.map_eq_none_iff, dget, List.find?_eq_none] at g1
        have := g1 p hp
        simp at this
    rw [h0]
    have := (hf1.2 3 _ h3).2.int_inv
    have h3' : a1.tmps[3]? = some (.int .i64 0) := by
      rw [Array.getElem?_eq_getElem (by omega)]
      rw [← this, Array.getD_eq_getD_getElem?, Array.getElem?_eq_getElem (by omega)]; rfl
    simp [Act.put, h3']
  refine (?key : ∀ cnt left a2 w2, UsedSt cx1 cx1.w.heap.size m.blk ds.length ds d.files a1.defers left cnt a2 w2 → HeadW _ _ _ a2 w2) _ _ _ _ init
  intro cnt
  induction cnt using Nat.strongRecOn with
  | ind cnt ih =>
  intro left a2 w2 st
  refine HeadW.round (wp_seq (wp_region_list ?_))
  have hit : a2.eval (.tmp 10) = .pointer (some ⟨cx1.w.heap.size, 0, none⟩) := getD_of st.it
  refine wpList_next_ranges (α := Value) (β := Value) _ rfl (.tmp 10) rfl 9 hkd asHeld id id (fun key kl _ => ⟨key, rfl⟩) (fun v y _ => ⟨v, rfl⟩) m.blk cx1.w.heap.size ds.length (.map ds) left cnt hit st.rg ?_ ?_
  · intro h0 hleft
    refine wpList_plain rfl fun K' hK' => ?_
    unfold Oper.wp
    simp [execOp, Act.eval, Act.put, st.sz, Result.andThen, Instr.extract, Oper.upon]
    refine hK' _ _ (wpList_nil ?_)
    show Code.wp _ _ _ _ _
    refine wp_seq (wp_cond_false (by simp [Act.eval, st.sz]) (wp_exit ?_))
    simp only [Exit.then, Exit.inBlock, if_true]
    have hacc : tot d.files (fun n => !left (.string n)) = used d.files := tot_all (fun n => by simp [hleft]) _
    have ha := st.acc
    rw [hacc] at ha
    refine ⟨.normal, [(3, i64 (used d.files))], dkS d, cx1.grown w2, rfl, hfin _ rfl, trivial, (hn1.grown st.bl).1, ⟨by simp [st.sz], fun t x ht => ?_⟩, st.dl.trans hd1, hs1.transB ((hn1.grown st.bl).2.ofBelow (hs1.topB ▸ ht))⟩
    simp only [Fr.get] at ht
    split at ht
    · rename_i e; subst e
      simp only [Option.some.injEq] at ht; subst ht
      refine ⟨by omega, ?_⟩
      have : ((a2.tmps.setIfInBounds 11 (.tuple #[.bool false])).setIfInBounds 12 (.bool false)).getD 3 undef = .int .i64 (used d.files) := getD_of (by simp [ha])
      rw [this]
      exact V_one (.int _ _) (by simp)
    · simp at ht
  · intro key v kl y w3 cnt' hkey hlk hR hat hrg3 hlt hg3 hsz3 hen
    simp only [id] at hkey hR hen
    obtain ⟨x, g1, g2⟩ : ∃ x, mget kl (encFs d.files) = some x ∧ V tE cx1 x v := by
      simp only [asHeld, Option.some.injEq] at hR; subst hR
      rcases hml.get kl with ⟨x, v', g1, g2, g3, g4⟩ | ⟨g1, g3, g4⟩
      · have := (hat .nil).symm.trans (g4 .nil)
        simp only [DataW.held.injEq] at this; subst this
        exact ⟨x, g1, g2⟩
      · have := (hat .nil).symm.trans (g4 .nil)
        simp at this
    obtain ⟨n, rfl⟩ : ∃ n, kl = .string n := by
      unfold mget at g1
      simp only [Option.map_eq_some_iff] at g1
      obtain ⟨p, hp, _⟩ := g1
      have h1 := List.find?_some hp
      have h2 := List.mem_of_find?_eq_some hp
      obtain ⟨q, _, rfl⟩ := List.mem_map.1 h2
      cases kl <;> simp [Lit.sameKey] at h1 ⊢
    rw [mget_enc] at g1
    simp only [Option.map_eq_some_iff] at g1
    obtain ⟨f, hg, rfl⟩ := g1
    have hstep : tot d.files (fun m => !(left (.string m) && !(Lit.string m).sameKey (.string n))) = tot d.files (fun n => !left (.string n)) + f.b.length := by
      rw [← tot_one (g := fun m => !left (.string m)) (by simp [hlk]) d.files hpw hg]
      congr 1
      funext m
      simp [Lit.sameKey]
    have hle := tot_le (fun m => !(left (.string m) && !(Lit.string m).sameKey (.string n))) d.files
    have hb3 : RowKit.Below cx1.w.heap.size w2 w3 := ⟨hg3.os, hg3.tape, hg3.output, hg3.size, fun k hk => hg3.block k (Nat.lt_of_lt_of_le hk st.bl.size) (by simp; omega)⟩
    have hb13 := st.bl.trans hb3
    have hV : V tE (cx1.bare w3) (.tup [.undef, encF f]) (.tuple #[key, v]) :=
      VL.tup (us := #[key, v]) (VL.two (V_undef _) (g2.bare (by simp [encF]) fun k hk => hb13.block k (hn1.immI k hk))) .nil
    have hN3 : Now tE (cx1.bare w3) [] := Now.bare fun k hk => Nat.lt_of_lt_of_le (hn1.immI k hk) hb13.size
    refine wpList_plain rfl fun K' hK' => ?_
    unfold Oper.wp
    simp [execOp, Act.eval, Act.put, st.sz, Result.andThen, Instr.extract, Oper.upon]
    refine hK' _ _ (wpList_nil ?_)
    show Code.wp _ _ _ _ _
    refine wp_seq (wp_cond_true (by simp [Act.eval, st.sz]) (wp_skip ?_))
    show Code.wp _ _ _ _ _
    refine wp_block (wp_seq (wp_region_list ?_))
    refine wpList_plain rfl fun K' hK' => ?_
    unfold Oper.wp
    have hit3 : ((a2.tmps.setIfInBounds 11 (.tuple #[.bool true, key, v])).setIfInBounds 12 (.bool true)).getD 10 undef = .pointer (some ⟨cx1.w.heap.size, 0, none⟩) := getD_of (by simp [st.it])
    simp only [execOp, Act.eval, hit3, hen, Sem.run_bind, Result.andThen_ok, Sem.run_pure, Oper.upon, Act.put]
    refine hK' _ _ ?_
    have hacc := st.acc
    generalize hA : (((a2.tmps.setIfInBounds 11 (.tuple #[.bool true, key, v])).setIfInBounds 12 (.bool true)).setIfInBounds 13 (.tuple #[key, v])) = tm
    have e10 : tm[10]? = some (.pointer (some ⟨cx1.w.heap.size, 0, none⟩)) := by rw [← hA]; simp [st.it]
    have e3 : tm[3]? = some (.int .i64 (tot d.files fun n => !left (.string n))) := by rw [← hA]; simp [hacc]
    have e13 : tm[13]? = some (.tuple #[key, v]) := by rw [← hA]; simp [st.sz]
    have esz : tm.size = 21 := by rw [← hA]; simp [st.sz]
    have hf3 : FR tE (cx1.bare w3) 21 [(13, .tup [.undef, encF f]), (3, i64 (tot d.files fun n => !left (.string n)))] tm := by
      refine ⟨esz, fun t x ht => ?_⟩
      simp only [Fr.get] at ht
      split at ht
      · rename_i e; subst e
        simp only [Option.some.injEq] at ht; subst ht
        exact ⟨by omega, by rw [getD_of e13]; exact hV⟩
      · split at ht
        · rename_i e; subst e
          simp only [Option.some.injEq] at ht; subst ht
          exact ⟨by omega, by rw [getD_of e3]; exact V_one (.int _ _) (by simp)⟩
        · simp at ht
    refine wpList_keeping (cx := cx1.bare w3) (z := 0) (K := fun fr' σ' => Fr.get fr' 5 = some (.ptr 0 0 0 []) ∧ Fr.get fr' 3 = some (i64 (tot d.files fun n => !left (.string n))) ∧ σ' = [some (.cells 56 0 [encF f])]) tOK 10 _ rfl (Nat.le_refl _) hN3 hf3 (by simp [encF]) ?_
    rintro fr4 σ4 cx4 a4 ⟨h5, h3', rfl⟩ hn4 hf4 hd4 hs4 ht4
    show Code.wp _ _ _ _ _
    refine wp_region_list ?_
    have hlen : (u8l f.b).length = f.b.length := by simp [u8l]
    refine wpList_keeping (z := 1) (K := fun fr' σ' => Fr.get fr' 3 = some (i64 (tot d.files fun m => !(left (.string m) && !(Lit.string m).sameKey (.string n))))) tOK 10 _ rfl (by rw [hs4.top]; exact Nat.zero_le _) hn4 hf4 (by
      rw [hstep]
      simp [h5, h3', encF, hlen]
      have hs4' := hstep; exact IntWalk.i64_in _ (by omega)) ?_
    rintro fr5 σ5 cx5 a5 h3'' hn5 hf5 hd5 hs5 ht5
    show HeadW _ _ _ _ _
    have hk45 : ∀ k, k < w3.heap.size → cx5.w.heap[k]? = w3.heap[k]? := fun k hk => (hs5.keeps k (hs4.F k hk)).trans (hs4.keeps k hk)
    have hsz45 : w3.heap.size ≤ cx5.w.heap.size := Nat.le_trans hs4.size hs5.size
    refine ih cnt' hlt (fun x => left x && !x.sameKey (.string n)) a5 cx5.w ⟨hf5.1, ht5.trans (ht4.trans e10), ?_, hd5.trans (hd4.trans st.dl), ?_, hb13.trans ⟨hs5.os.trans hs4.os, hs5.tape.trans hs4.tape, hs5.output.trans hs4.output, hsz45, fun k hk => hk45 k (Nat.lt_of_lt_of_le hk hb13.size)⟩, Nat.le_refl _⟩
    · have := (hf5.2 3 _ h3'').2.int_inv
      rw [Array.getElem?_eq_getElem (by rw [hf5.1]; omega)]
      rw [← this, Array.getD_eq_getD_getElem?, Array.getElem?_eq_getElem (by rw [hf5.1]; omega)]; rfl
    · exact hrg3.kept (row := none) ⟨hs5.os.trans hs4.os, hs5.tape.trans hs4.tape, hs5.output.trans hs4.output, hsz45, fun k hk _ => hk45 k hk⟩ (by simp) (by simp)
end
end Go.Proofs.Ythllcknfidnfaaa
