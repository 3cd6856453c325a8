/- Rounds of a range over a function: a call of its yield, in the logic. -/
import Derived.Test.YtdplbgfokoajjaaGreatXb
section
set_option maxRecDepth 20000
set_option linter.unusedVariables false
set_option linter.unusedSimpArgs false
namespace Go.Proofs.YtdplbgfokoajjaaGreat
open Go
section
variable {E : Env} {N z : Nat} {Q : Post} {fr : Fr} {σ : Store}
theorem Now.label {cx : Cx} {σ : Store} (h : Now E cx σ) {n : Nat} (hn : n ≤ σ.length) : Now E (cx.label n) σ :=
 ⟨hn, h.A, h.IF, h.imm, fun b m hb => by
  obtain ⟨blk, a1, a2, a3, a4⟩ := h.dom b m hb
  exact ⟨blk, a1, a2, a3, a4.ext ⟨fun _ h => h, fun _ _ => rfl, fun _ h => h, fun b _ m h => ⟨m, h, Nat.le_refl _, fun _ => rfl⟩⟩ rfl⟩, h.live, h.inj, h.base⟩
theorem Ext.label (cx : Cx) (n : Nat) : Ext cx (cx.label n) := ⟨fun _ h => h, fun _ _ => rfl, fun _ h => h, fun b _ m h => ⟨m, h, Nat.le_refl _, fun _ => rfl⟩⟩
def YR (E : Env) (l : Nat) (vs : List PV) (σ : Store) (R : Re → Store → Prop) : Prop :=
 ∀ (cx : Cx) (us : Array Value), Now E cx σ → VL E cx vs us.toList → ∃ (f : FuncId) (tmps : Array Value) (as bd : Code), (Instr.yield l us).run E.P cx.w = .ok (.round l f tmps as bd) cx.w ∧
  ∀ r, RoundIn (FW r) 0 E.P l f tmps as bd cx.w fun e w' => ∃ re σ' cx', cx'.w = w' ∧ R re σ' ∧ ReOK E cx' re e ∧ Now E cx' σ' ∧ Step cx cx'
theorem YR.mono {l : Nat} {vs : List PV} {R R' : Re → Store → Prop} (h : YR E l vs σ R) (q : ∀ re σ, R re σ → R' re σ) : YR E l vs σ R' := fun cx us hn hv => by
 obtain ⟨f, tmps, as, bd, k1, k2⟩ := h cx us hn hv
 exact ⟨f, tmps, as, bd, k1, fun r => (k2 r).mono fun e w ⟨re, σ', cx', h1, h2, h3⟩ => ⟨re, σ', cx', h1, q _ _ h2, h3⟩⟩
theorem opr_round {P : Program} {o : Oper} {a : Act} {w : World} {K : Act → World → Prop} {Q : Exit → Act → World → Prop} {l f : Nat} {tmps : Array Value} {as bd : Code} (h1 : (execOp a.eval o).run P w = .ok (.round l f tmps as bd) w)
  (h : ∀ r, RoundIn (FW r) 0 P l f tmps as bd w fun | .returned v, w'' => K (a.put o.dst v) w'' | .panicked chain, w'' => Q (.panic chain) a w'' | .outgrown, _ => LetsOut Q) : opr P o a w K Q := fun r => by
 refine ⟨fun _ _ => trivial, ?_⟩
 rw [semAt_ok h1 (by simp) _, h1]
 exact ⟨FW_depth r, h r⟩
theorem OpW_yield {o : Oper} {K : Fr → Store → Prop} {c : Call} {f : Operand} {l : Nat} {vs : List PV} (ho : o.op = .call c) (hc : c.callee = .value f) (hf : Fr.eval fr f = some (.fn (.yield l) [] []))
  (ha : c.args.toList.mapM (Fr.eval fr) = some vs) (hd : ∀ t, o.dst = some t → t < N) (h : YR E l vs σ (afterCall Q K o.dst fr)) : OpW E N z o Q K fr σ := fun cx a ht hn hfr => by
 obtain ⟨us, ws, h1, h2, h3⟩ := (hfr.ev f _ hf).fn_inv
 have e1 := VL.nil_toList h2
 have e2 := VL.nil_toList h3
 subst e1; subst e2
 have h4 := VL_map hfr.ev ha
 have hv : VL E cx vs (c.args.map a.eval).toList := by simpa using h4
 obtain ⟨g, tmps, as, bd, k1, k2⟩ := h cx (c.args.map a.eval) hn hv
 have hrun : (execOp a.eval o).run E.P cx.w = .ok (.round l g tmps as bd) cx.w := by
  simp [execOp, ho, resolve, hc, h1, Deferred.ofValue, invoke, k1]
 refine opr_round hrun fun r => (k2 r).mono ?_
 rintro e w' ⟨re, σ', cx', rfl, h3, h4, h5, h6⟩
 cases re with
 | ret x =>
  cases e <;> simp only [ReOK] at h4
  exact ⟨_, σ', cx', rfl, h3, h5, (hfr.step h6).put h4 hd, by cases o.dst <;> rfl, h6⟩
 | pan x =>
  cases e <;> simp only [ReOK] at h4
  exact ⟨.pan x, fr, σ', cx', rfl, h3, h4, h5, hfr.step h6, rfl, h6.ofBelow ht⟩
def putsF : Fr → List Tmp → List PV → Fr
 | fr, p :: ps, v :: vs => putsF (Fr.put fr (some p) v) ps vs
 | fr, _, _ => fr
theorem FR.puts {c : Cx} : ∀ {ps : List Tmp} {vs : List PV} {us : List Value} {fr : Fr} {tmps : Array Value}, FR E c N fr tmps → VL E c vs us → vs.length = ps.length → (∀ p ∈ ps, p < N) →
  FR E c N (putsF fr ps vs) ((ps.zip us).foldl (fun t (x : Tmp × Value) => t.setIfInBounds x.1 x.2) tmps)
 | [], vs, us, fr, tmps, h, hv, hl, hp => by
  cases vs <;> exact h
 | p :: ps, [], us, fr, tmps, h, hv, hl, hp => by simp at hl
 | p :: ps, v :: vs, us, fr, tmps, h, hv, hl, hp => by
  obtain ⟨u, us', rfl, h1, h2⟩ : ∃ u us', us = u :: us' ∧ V E c v u ∧ VL E c vs us' := by
   cases hv with
   | undef hs => exact ⟨_, _, rfl, .undef .nil, hs⟩
   | one a b d hs => exact ⟨_, _, rfl, .one a b d .nil, hs⟩
   | agg a hs => exact ⟨_, _, rfl, .agg a .nil, hs⟩
   | tup a hs => exact ⟨_, _, rfl, .tup a .nil, hs⟩
  simp only [List.zip_cons_cons, List.foldl_cons, putsF]
  have := FR.put (a := { tmps := tmps, defers := [] }) h h1 (d := some p) fun t ht => by simp at ht; subst ht; exact hp p (by simp)
  exact FR.puts this h2 (by simpa using hl) fun q hq => hp q (by simp [hq])
def roundQ (l b : Nat) (R : Re → Store → Prop) : Post
 | .normal, _, σ => match Store.at σ b with
  | some (.loop l' _ _ n fr ps as bd) => l' = l ∧ R (.ret (.bool true)) (σ.set b (some (.loop l .ready none n fr ps as bd)))
  | _ => False
 | .ret, _, σ => match Store.at σ b with
  | some (.loop l' _ _ n fr ps as bd) => l' = l ∧ R (.ret (.bool false)) (σ.set b (some (.loop l .done (some .ret) n fr ps as bd)))
  | _ => False
 | .exit i, _, σ => match Store.at σ b with
  | some (.loop l' _ _ n fr ps as bd) => l' = l ∧ R (.ret (.bool false)) (σ.set b (some (.loop l .done (some (.exit i)) n fr ps as bd)))
  | _ => False
 | .pan _, _, _ => False
theorem Now.loopAt {cx : Cx} (hn : Now E cx σ) {b l n : Nat} {st : LoopState} {pend : Option Code} {fr : Fr} {ps : Array Tmp} {as bd : Code} (hb : Store.at σ b = some (.loop l st pend n fr ps as bd)) :
  ∃ m fn tmps dl, cx.mu b = some m ∧ m.blk = l ∧ cx.w.heap[l]? = some (.loop { state := st, pending := pend, fn := fn, tmps := tmps, params := ps, assign := as, body := bd, defers := dl }) ∧ FRA E cx n fr tmps := by
 have hs := Store.at_some hb
 obtain ⟨hA, m, hm⟩ := hn.live b _ hs
 obtain ⟨blk, h1, h2, h3, h4⟩ := hn.dom b m hm
 rw [hs] at h1; simp only [Option.some.injEq] at h1; subst h1
 obtain ⟨_, k2, fn, tmps, dl, k3, k4⟩ := h4
 subst k2
 exact ⟨m, fn, tmps, dl, hm, rfl, k3, k4⟩
theorem Now.loopSet {cx : Cx} (hn : Now E cx σ) {b l n : Nat} {st st' : LoopState} {pend pend' : Option Code} {fr : Fr} {ps : Array Tmp} {as bd : Code} {fn : FuncId} {tmps : Array Value} {dl : Nat} {m : MB} (hb : Store.at σ b = some (.loop l st pend n fr ps as bd))
  (hm : cx.mu b = some m) (hl : m.blk = l) (hw : cx.w.heap[l]? = some (.loop { state := st, pending := pend, fn := fn, tmps := tmps, params := ps, assign := as, body := bd, defers := dl })) (hF : FRA E cx n fr tmps) :
  ∃ cx', cx'.w = cx.w.putObj l (.loop { state := st', pending := pend', fn := fn, tmps := tmps, params := ps, assign := as, body := bd, defers := dl }) ∧ Now E cx' (σ.set b (some (.loop l st' pend' n fr ps as bd))) ∧ Step cx cx' := by
 have hlt : l < cx.w.heap.size := (Array.getElem?_eq_some_iff.1 hw).1
 have hg : m.gen = 0 := by
  obtain ⟨blk, h1, h2, h3, h4⟩ := hn.dom b m hm
  rw [Store.at_some hb] at h1; simp only [Option.some.injEq] at h1; subst h1
  exact h4.1
 subst hl
 obtain ⟨h1, h2⟩ := hn.change (m' := m) (w := cx.w.putObj m.blk (.loop { state := st', pending := pend', fn := fn, tmps := tmps, params := ps, assign := as, body := bd, defers := dl })) (blk := .loop m.blk st' pend' n fr ps as bd) hm (by simp)
  (fun k hk _ => World.putObj_heap_other hk) rfl rfl rfl (Nat.le_refl _) (fun _ => rfl) (.inl rfl) (by simpa using hlt)
  (fun ext => ⟨hg, rfl, fn, tmps, dl, World.putObj_heap_same hlt, hF.1, fun p hp => ⟨(hF.2 p hp).1, (hF.2 p hp).2.ext ext⟩⟩)
 exact ⟨_, rfl, h1, h2⟩
theorem YR_loop {b l n : Nat} {fr0 : Fr} {ps : Array Tmp} {as bd : Code} {vs : List PV} {pend : Option Code} {R : Re → Store → Prop} (hb : Store.at σ b = some (.loop l .ready pend n fr0 ps as bd)) (hlen : vs.length = ps.toList.length) (hps : (ps.toList.all fun p => decide (p < n)) = true)
  (h : T E n σ.length as (Post.seq (fun fr1 σ1 => ∃ pend' fr', Store.at σ1 b = some (.loop l .ready pend' n fr' ps as bd) ∧ T E n σ.length bd (roundQ l b R) fr1 (σ1.set b (some (.loop l .busy pend' n fr' ps as bd)))) (fun _ _ _ => False)) (putsF fr0 ps.toList vs) σ) :
  YR E l vs σ R := fun cx us hn hv => by
 obtain ⟨m, fn, tmps, dl, m1, m2, m3, m4⟩ := hn.loopAt hb
 have hlu := hv.len
 have hsz : us.size = ps.size := by
  have : us.toList.length = us.size := Array.length_toList
  have : ps.toList.length = ps.size := Array.length_toList
  omega
 refine ⟨fn, _, as, bd, run_yield m3 hsz, fun r => ?_⟩
 have hn1 : Now E (cx.label σ.length) σ := hn.label (Nat.le_refl _)
 have hf0 : FR E (cx.label σ.length) n fr0 tmps := ⟨m4.1, fun t x ht => ⟨(m4.2 _ (Fr.get_mem ht)).1, (m4.2 _ (Fr.get_mem ht)).2.ext (Ext.label _ _)⟩⟩
 have hf1 := hf0.puts (ps := ps.toList) (us := us.toList) (hv.ext (Ext.label _ _)) hlen fun p hp => by simpa using List.all_eq_true.1 hps p hp
 have ezip : ((ps.zip us).foldl (fun tmps (x : Tmp × Value) => tmps.setIfInBounds x.1 x.2) tmps) = ((ps.toList.zip us.toList).foldl (fun t (x : Tmp × Value) => t.setIfInBounds x.1 x.2) tmps) := by
  rw [← Array.foldl_toList, Array.toList_zip]
 refine roundIn_of_wpIn (F := FW r) trivial ?_
 have h0 := h (cx.label σ.length) { tmps := (ps.zip us).foldl (fun tmps (x : Tmp × Value) => tmps.setIfInBounds x.1 x.2) tmps, defers := [] } (Nat.le_refl _) hn1 (by rw [ezip]; exact hf1) (some l)
 refine wpIn_mono h0 ?_
 rintro e a1 w1 ⟨ex, fr1, σ1, cx1, rfl, q1, q2, q3, q4, q5, q6⟩
 cases ex <;> cases e <;> simp only [ExOK] at q2 <;> try exact q1.elim
 obtain ⟨pend', fr', q7, hbody⟩ := q1
 obtain ⟨m', fn', tmps', dl', n1, n2, n3, n4⟩ := q3.loopAt q7
 obtain ⟨cx2, c1, c2, c3⟩ := q3.loopSet (st' := .busy) (pend' := pend') q7 n1 n2 n3 n4
 refine ⟨cx2.w, by rw [c1]; exact run_beginRound n3 rfl, ?_⟩
 have htop : cx1.top = σ.length := q6.top
 have hb0 := hbody cx2 a1 (by rw [c3.top, htop]; exact Nat.le_refl _) c2 (q4.step c3) (some l)
 refine wpIn_mono hb0 ?_
 rintro e a2 w2 ⟨ex, fr2, σ2, cx3, rfl, r1, r2, r3, r4, r5, r6⟩
 have hstep : Step ((cx.label σ.length).below σ.length) cx3 := (q6.transB (c3.ofBelow (by rw [htop]; exact Nat.le_refl _))).transB r6
 have fin : ∀ (st' : LoopState) (pend2 : Option Code), (match Store.at σ2 b with | some (.loop l' _ _ n fr ps as bd) => l' = l ∧ R (.ret (.bool pend2.isNone)) (σ2.set b (some (.loop l (if pend2.isNone then .ready else .done) pend2 n fr ps as bd))) | _ => False) →
   ∃ v w', (Instr.endRound l pend2).run E.P cx3.w = .ok v w' ∧ ∃ re σ' cx', cx'.w = w' ∧ R re σ' ∧ ReOK E cx' re (.returned v) ∧ Now E cx' σ' ∧ Step cx cx' := fun st' pend2 hR => by
  split at hR
  ·rename_i l' st2 pd2 n' fr' ps' as' bd' hat
   obtain ⟨m3, fn3, tmps3, dl3, p1, p2, p3, p4⟩ := r3.loopAt hat
   obtain ⟨el, hR⟩ := hR
   subst el
   obtain ⟨cx4, d1, d2, d3⟩ := r3.loopSet (st' := if pend2.isNone then .ready else .done) (pend' := pend2) hat p1 p2 p3 p4
   refine ⟨_, _, run_endRound pend2 p3, .ret (.bool pend2.isNone), _, cx4.label cx.top, d1, hR, V_one (.bool _) (by simp), ?_, ?_⟩
   ·exact d2.label (by
     have := d2.top
     have e1 : cx4.top = cx3.top := d3.top
     have e2 : cx3.top = cx2.top := r6.top
     have e3 : cx2.top = cx1.top := c3.top
     have := hn.top
     omega)
   ·have h7 := hstep.transB (d3.ofBelow (by have e2 : cx3.top = cx2.top := r6.top; have e3 : cx2.top = cx1.top := c3.top; omega))
    have h8 : Step (cx.label σ.length) cx4 := ⟨⟨h7.ext.I, h7.ext.keeps, fun b hb => h7.ext.A b ⟨hb, hn.A b hb⟩, fun b hb => h7.ext.mu b ⟨hb, hn.A b hb⟩⟩, h7.F, h7.keeps, h7.grow, h7.muold, h7.top, fun b hb => (h7.new b hb).imp And.left id, h7.size, h7.os, h7.tape, h7.output⟩
    exact h8.relabel hn.top
  ·exact hR.elim
 cases ex <;> cases e <;> simp only [ExOK] at r2
 ·exact fin .ready none r1
 ·subst r2; exact fin .done (some (.exit _)) r1
 ·exact fin .done (some .ret) r1
 ·exact r1.elim
end
section
variable {E : Env} {σ : Store} {nid : Nat}
theorem Yld_congr {o o' : Oper} {fr : Fr} {v : PV} {σ' : Store} (h : ∀ ρ, execOp ρ o = execOp ρ o') (hy : Yld E nid o' fr σ v σ') : Yld E nid o fr σ v σ' := fun cx ρ hn he hA ht => by
 rw [h ρ]; exact hy cx ρ hn he hA ht
def sClear (E : Env) (T : TypeId) (x : PV) (σ : Store) : Option Store :=
 match E.td T, x with
 | .slice e, .ref b g off len => match Store.at σ b with
  | some (.cells ty g' xs) => if g' = g ∧ ty = e ∧ off + len ≤ xs.length then some (σ.set b (some (.cells e g (xs.take off ++ (List.replicate len (E.zero e) ++ xs.drop (off + len)))))) else none
  | _ => none
 | .slice _, .nils => some σ
 | _, _ => none
theorem Y_clear (O : E.OK) {o : Oper} {c : Call} {x : Operand} {T : TypeId} {fr : Fr} {xv : PV} {σ' : Store} (ho : o.op = .call c) (hc : c.callee = .builtin .clear) (ha : c.args = #[x]) (ht : c.argTypes = #[T]) (hx : Fr.eval fr x = some xv) (hk : E.kn T = true)
  (h : sClear E T xv σ = some σ') : Yld E nid o fr σ (.tup []) σ' := fun cx ρ hn he hnid htop => by
 have hxv := he x xv hx
 have hrun : ∀ (u : Value) (w' : World), (Builtin.clear_ #[T] o.type #[ρ x]).run E.P cx.w = .ok u w' → (execOp ρ o).run E.P cx.w = .ok (.value u) w' := fun u w' hu => by
  rw [run_builtin ho hc, ha, ht]
  simp [builtin, hu]
 unfold sClear at h
 split at h
 ·rename_i e b g off len hT
  have htd := O.td T hk
  rw [hT] at htd
  obtain ⟨hu, hke, hpos⟩ := htd
  split at h
  ·rename_i ty g' xs hb
   split at h
   ·rename_i hcn
    obtain ⟨rfl, rfl, hle⟩ := hcn
    simp only [Option.some.injEq] at h; subst h
    obtain ⟨m, ca, el, fz, cs, j1, j2, j3, j4, j5, j6, j7, j8, j9⟩ := hn.blk hb
    obtain ⟨i, z, hi1, hi2, hi3, hi4⟩ := O.zero ty hke
    obtain ⟨hzv, hzf⟩ := hi4 cx
    have hzl := hzv.len O.toFine _ hzf
    have hzs : z.cells.size = E.size ty := by simpa using hzl
    have hv0 := VR_rep E cx ty _ _ hzv hzf len
    have hcl := VR.length O.toFine hv0
    have v0 : VR E cx ty xs cs := j6
    have hl0 := VR.length O.toFine v0
    obtain ⟨hA, _, hr⟩ := hxv.ref_inv
    obtain ⟨a, cap, hval, hcap, hh⟩ := hr m j1 j2
    by_cases h0 : len = 0
    ·subst h0
     have exs : xs.take off ++ (List.replicate 0 (E.zero ty) ++ xs.drop (off + 0)) = xs := by simp
     have hbl : m.blk < cx.w.heap.size := by obtain ⟨_, _, h, _⟩ := hn.dom b m j1; exact h
     obtain ⟨hn', hs'⟩ := hn.change (m' := m) j1 (w := cx.w) (Nat.le_refl _) (fun k hk _ => rfl) rfl rfl rfl (Nat.le_refl _) (fun _ => rfl) (.inl rfl) hbl (blk := .cells ty g' (xs.take off ++ (List.replicate 0 (E.zero ty) ++ xs.drop (off + 0)))) (fun ext => by
      rw [exs]; exact ⟨j2, j3, ca, el, fz, cs, j4, j5, j6.ext ext, j7, j8, j9⟩)
     refine ⟨.value (.tuple #[]), .tuple #[], _, _, hrun _ _ ?_, .inl rfl, rfl, hn', VL.tup (us := #[]) .nil .nil, hs', fun _ h => .inl h⟩
     rw [hval]
     cases a <;> simp [Builtin.clear_, run_underlying hu] <;> rfl
    rcases hh with h | ⟨rfl, hfit⟩
    ·omega
    ·rw [j3] at hfit hval
     have hbl : m.blk < cx.w.heap.size := by obtain ⟨_, _, h, _⟩ := hn.dom b m j1; exact h
     have hfit3 : off * E.size ty + len * E.size ty ≤ cs.length := by
      have := Nat.mul_le_mul_right (E.size ty) hle
      rw [Nat.add_mul] at this; omega
     have hcl' : ((List.replicate len z.cells.toList).flatten).length = len * E.size ty := by rw [hcl]; simp
     have hst := run_storeCells_free E.P m.blk (m.base + off * E.size ty) el fz ((List.replicate len z.cells.toList).flatten) 0 ca cx.w j4 j9 (by omega) (VCs.one hv0)
     simp only [Nat.add_zero] at hst
     have hS' : (splice ca.toList (m.base + off * E.size ty) ((List.replicate len z.cells.toList).flatten)).toArray.size = ca.size := by
      simp only [List.size_toArray]; rw [splice_length (by rw [hcl', Array.length_toList]; omega)]; simp
     have hnew : VR E cx ty (xs.take off ++ (List.replicate len (E.zero ty) ++ xs.drop (off + len))) (splice cs (off * E.size ty) ((List.replicate len z.cells.toList).flatten)) := by
      have := (v0.take O.toFine off).app (hv0.app (v0.drop O.toFine (off + len)))
      unfold splice
      rw [hcl', ← Nat.add_mul]
      simpa [List.append_assoc] using this
     obtain ⟨hn', hs'⟩ := hn.change (m' := m) j1 (w := cx.w.setRow m.blk (splice ca.toList (m.base + off * E.size ty) ((List.replicate len z.cells.toList).flatten)).toArray) (by simp) (fun k hk _ => setRow_other _ _ _ _ hk) rfl rfl rfl
      (Nat.le_refl _) (fun _ => rfl) (.inl rfl) (by simpa using hbl) (blk := .cells ty g' (xs.take off ++ (List.replicate len (E.zero ty) ++ xs.drop (off + len)))) (fun ext => by
       refine ⟨j2, j3, _, el, fz, _, setRow_heap _ _ _ _ _ _ j4, hS'.trans j5, VCs.ext hnew ext, Win_splice j7 (by omega) j8, ?_, ?_⟩
       ·rw [splice_length (by omega), hS']; exact j8
       ·unfold Free at *; rw [hS']; exact j9)
     refine ⟨.value (.tuple #[]), .tuple #[], _, _, hrun _ _ ?_, .inl rfl, rfl, hn', VL.tup (us := #[]) .nil .nil, hs', fun _ h => .inl h⟩
     rw [hval]
     obtain ⟨len', rfl⟩ : ∃ n, len = n + 1 := ⟨len - 1, by omega⟩
     have hzr : (zeroValue ty).run E.P cx.w = .ok z cx.w := by simp [zeroValue, typeInfo, hi1, hi2]
     simp [Builtin.clear_, run_underlying hu, hzr, zeroCells_eq, hst]
     rfl
   ·simp at h
  ·simp at h
 ·obtain ⟨a, hval⟩ := hxv.nils_inv
  simp only [Option.some.injEq] at h; subst h
  rename_i e hT
  have htd := O.td T hk
  rw [hT] at htd
  refine ⟨.value (.tuple #[]), .tuple #[], _, cx, hrun _ _ ?_, .inl rfl, rfl, hn, VL.tup (us := #[]) .nil .nil, Step.refl cx, fun _ h => .inl h⟩
  rw [hval]
  cases a <;> simp [Builtin.clear_, run_underlying htd.1]
 ·simp at h
def xop (E : Env) (op : Op) (fr : Fr) (σ : Store) : Option (PV × Store) :=
 match op with
 | .insert T m x y => match Fr.eval fr m, Fr.eval fr x, Fr.eval fr y with | some mv, some xv, some yv => if E.kn T then (sMapSet E T mv xv yv σ).map (.undef, ·) else none | _, _, _ => none
 | .call c => match c.callee, c.args.toList, c.argTypes.toList with
  | .builtin .clear, [x], [T] => match Fr.eval fr x with | some xv => if E.kn T then (sClear E T xv σ).map (.tup [], ·) else none | none => none
  | _, _, _ => none
 | _ => none
theorem xop_ok (O : E.OK) {o : Oper} {fr : Fr} {v : PV} {σ' : Store} (h : xop E o.op fr σ = some (v, σ')) : Yld E nid o fr σ v σ' := by
 have arr : ∀ {α : Type} {a : Array α} {l : List α}, a.toList = l → a = l.toArray := fun h => by rw [← h]
 unfold xop at h
 split at h
 ·rename_i T m x y ho
  split at h
  ·rename_i mv xv yv hm hx hy
   split at h
   ·rename_i hk
    obtain ⟨r, hr, hh⟩ := Option.map_eq_some_iff.1 h
    simp only [Prod.mk.injEq] at hh; obtain ⟨rfl, rfl⟩ := hh
    exact Yld_congr (o' := { o with op := .mapUpdate T m x y }) (fun ρ => by simp [execOp, ho]) (Y_mapUpdate O rfl hm hx hy hk hr)
   ·simp at h
  ·simp at h
 ·rename_i c ho
  split at h
  ·rename_i x T hc hA hT
   split at h
   ·rename_i xv hx
    split at h
    ·rename_i hk
     obtain ⟨r, hr, hh⟩ := Option.map_eq_some_iff.1 h
     simp only [Prod.mk.injEq] at hh; obtain ⟨rfl, rfl⟩ := hh
     exact Y_clear O ho hc (arr hA) (arr hT) hx hk hr
    ·simp at h
   ·simp at h
  ·simp at h
 ·simp at h
theorem OpW_xop (O : E.OK) {N z : Nat} {Q : Post} {o : Oper} {K : Fr → Store → Prop} {fr : Fr} {v : PV} {σ' : Store} (h : xop E o.op fr σ = some (v, σ')) (hd : ∀ t, o.dst = some t → t < N) (hK : K (Fr.put fr o.dst v) σ') : OpW E N z o Q K fr σ := OpW_yld (Nat.le_refl _) (xop_ok O h) hd hK
end
def sCallee (E : Env) (fr : Fr) (c : Call) : Option (FuncId × List PV) :=
 match c.callee with
 | .value f => match Fr.eval fr f, c.args.toList.mapM (Fr.eval fr) with
  | some (.fn (.func g) xs ys), some vs => if E.fk g then some (g, xs ++ vs ++ ys) else none
  | _, _ => none
 | _ => none
def sYield (fr : Fr) (c : Call) : Option (Nat × List PV) :=
 match c.callee with
 | .value f => match Fr.eval fr f, c.args.toList.mapM (Fr.eval fr) with
  | some (.fn (.yield l) [] []), some vs => some (l, vs)
  | _, _ => none
 | _ => none
attribute [simp] sYield
def isCall : Op → Option Call
 | .call c => match c.callee with | .builtin _ => none | _ => some c
 | _ => none
def RF (E : Env) (ops : Array Oper) (Q : Post) (K : Fr → Store → Prop) : List Oper → Fr → Store → Prop
 | [], fr, σ => K fr σ
 | o :: os, fr, σ =>
  match sGuard ops o fr with
  | some true => (match isCall o.op with
   | some c => (match sCallee E fr c with
    | some (g, vs) => C E g vs σ (afterCall Q (RF E ops Q K os) o.dst fr)
    | none => (match sYield fr c with
     | some (l, vs) => YR E l vs σ (afterCall Q (RF E ops Q K os) o.dst fr)
     | none => False))
   | none => (match nilCmp E o.op fr σ with
    | some bs => ∀ b ∈ bs, RF E ops Q K os (Fr.put fr o.dst b) σ
    | none => (match sop E o.op fr σ σ.length with
     | some (v, σ') => RF E ops Q K os (Fr.put fr o.dst v) σ'
     | none => (match xop E o.op fr σ with
      | some (v, σ') => RF E ops Q K os (Fr.put fr o.dst v) σ'
      | none => False))))
  | some false => RF E ops Q K os (Fr.put fr o.dst (.tup [])) σ
  | none => False
def afterRF (E : Env) (ops : Array Oper) (Q : Post) (K : Fr → Store → Prop) (os : List Oper) (d : Option Tmp) (fr : Fr) (re : Re) (σ : Store) : Prop :=
 afterCall Q (RF E ops Q K os) d fr re σ
section
variable {E : Env} {N z : Nat} {Q : Post} {fr : Fr} {σ : Store}
theorem RF_nil {ops : Array Oper} {K : Fr → Store → Prop} : RF E ops Q K [] fr σ = K fr σ := by simp [RF]
theorem RF_cons {ops : Array Oper} {K : Fr → Store → Prop} {o : Oper} {os : List Oper} : RF E ops Q K (o :: os) fr σ =
  match sGuard ops o fr with
  | some true => (match isCall o.op with
   | some c => (match sCallee E fr c with
    | some (g, vs) => C E g vs σ (afterRF E ops Q K os o.dst fr)
    | none => (match sYield fr c with
     | some (l, vs) => YR E l vs σ (afterRF E ops Q K os o.dst fr)
     | none => False))
   | none => (match nilCmp E o.op fr σ with
    | some bs => ∀ b ∈ bs, RF E ops Q K os (Fr.put fr o.dst b) σ
    | none => (match sop E o.op fr σ σ.length with
     | some (v, σ') => RF E ops Q K os (Fr.put fr o.dst v) σ'
     | none => (match xop E o.op fr σ with
      | some (v, σ') => RF E ops Q K os (Fr.put fr o.dst v) σ'
      | none => False))))
  | some false => RF E ops Q K os (Fr.put fr o.dst (.tup [])) σ
  | none => False := by rw [RF]; rfl
theorem afterRF_ret {ops : Array Oper} {K : Fr → Store → Prop} {os : List Oper} {d : Option Tmp} {v : PV} : afterRF E ops Q K os d fr (.ret v) σ = RF E ops Q K os (Fr.put fr d v) σ := rfl
theorem afterCall.mono {K K' : Fr → Store → Prop} (hk : ∀ fr σ, K fr σ → K' fr σ) {d : Option Tmp} {re : Re} (h : afterCall Q K d fr re σ) : afterCall Q K' d fr re σ := by
 cases re with
 | ret v => exact hk _ _ h
 | pan x => exact h
theorem ROps_of_RF (O : E.OK) {ops : Array Oper} {K : Fr → Store → Prop} : ∀ (os : List Oper) (fr : Fr) (σ : Store), (∀ o ∈ os, ∀ t, o.dst = some t → t < N) → RF E ops Q K os fr σ → ROps E N z ops Q K os fr σ
 | [], fr, σ, hd, h => h
 | o :: os, fr, σ, hd, h => by
  have ih := fun fr σ => ROps_of_RF O (ops := ops) (K := K) os fr σ fun o ho => hd o (by simp [ho])
  unfold RF at h
  split at h
  ·rename_i hg
   refine ⟨true, hg, ?_⟩
   simp only [if_true]
   split at h
   ·rename_i c hc
    have ho : o.op = .call c := by
     unfold isCall at hc
     split at hc
     ·split at hc
      ·simp at hc
      ·simp only [Option.some.injEq] at hc; subst hc; assumption
     ·simp at hc
    split at h
    ·rename_i g vs hcal
     unfold sCallee at hcal
     split at hcal
     ·rename_i f hf
      split at hcal
      ·rename_i g' xs ys ws h1 h2
       split at hcal
       ·rename_i hk
        simp only [Option.some.injEq, Prod.mk.injEq] at hcal; obtain ⟨rfl, rfl⟩ := hcal
        exact OpW_call O ho hf h1 h2 hk (hd o (by simp)) (h.mono fun re σ => afterCall.mono fun fr σ => ih fr σ)
       ·simp at hcal
      ·simp at hcal
     ·simp at hcal
    ·split at h
     ·rename_i l vs hy
      unfold sYield at hy
      split at hy
      ·rename_i f hf
       split at hy
       ·rename_i l' ws h1 h2
        simp only [Option.some.injEq, Prod.mk.injEq] at hy; obtain ⟨rfl, rfl⟩ := hy
        exact OpW_yield ho hf h1 h2 (hd o (by simp)) (h.mono fun re σ => afterCall.mono fun fr σ => ih fr σ)
       ·simp at hy
      ·simp at hy
     ·exact h.elim
   ·split at h
    ·rename_i bs hbs
     exact OpW_nilCmp O hbs (hd o (by simp)) fun b hb => ih _ _ (h b hb)
    ·split at h
     ·rename_i v σ' hs
      exact OpW_yld (Nat.le_refl _) (sop_ok O hs) (hd o (by simp)) (ih _ _ h)
     ·split at h
      ·rename_i v σ' hs
       exact OpW_xop O hs (hd o (by simp)) (ih _ _ h)
      ·exact h.elim
  ·rename_i hg
   exact ⟨false, hg, by simpa using ih _ _ h⟩
  ·exact h.elim
theorem T_reg (O : E.OK) {id : Nat} {ops : Array Oper} (hd : (ops.toList.all fun o => match o.dst with | some t => decide (t < N) | none => true) = true) (h : RF E ops Q (Q .normal) ops.toList fr σ) : T E N z (.region id ops false) Q fr σ :=
 T_region hd (ROps_of_RF O ops.toList fr σ (fun o ho t ht => by
  have := List.all_eq_true.1 hd o ho
  rw [ht] at this; simpa using this) h)
theorem T_seqk {x y : Code} (h : ∀ K : Fr → Store → Prop, (∀ fr σ, T E N z y Q fr σ → K fr σ) → T E N z x (Post.seq K Q) fr σ) : T E N z (.seq x y) Q fr σ := T_seq (h _ fun _ _ h => h)
theorem T_blockk {id : Nat} {c : Code} (h : ∀ Q' : Post, (∀ e fr σ, Post.block id Q e fr σ → Q' e fr σ) → T E N z c Q' fr σ) : T E N z (.block id c) Q fr σ := T_block (h _ fun _ _ _ h => h)
theorem C_bodyk (O : E.OK) {f : FuncId} {fn : Func} {c : Code} {args : List PV} {R : Re → Store → Prop} (hfn : E.P.funcs[f]? = some fn) (hb : fn.body = some c) (hl : args.length ≤ fn.ntmps)
  (h : ∀ R' : Re → Store → Prop, (∀ re σ, R re σ → R' re σ) → T E fn.ntmps σ.length c (bodyQ E fn.results.toList R') (Fr.args 0 args) σ) : C E f args σ R := C_body O hfn hb hl (h R fun _ _ h => h)
end
mutual
def pureB : PV → Bool
 | .ptr .. => false
 | .ref .. => false
 | .map _ => false
 | .undef => false
 | .laddr x => pureB x
 | .fn _ a b => pureL a && pureL b
 | .iface _ x => pureB x
 | .agg _ fs => pureL fs
 | .tup vs => pureL vs
 | _ => true
def pureL : List PV → Bool
 | [] => true
 | x :: xs => pureB x && pureL xs
end
mutual
def belowB (n : Nat) : PV → Bool
 | .ptr b .. => decide (b < n)
 | .ref b .. => decide (b < n)
 | .map b => decide (b < n)
 | .laddr x => belowB n x
 | .fn _ a b => belowL n a && belowL n b
 | .iface _ x => belowB n x
 | .agg _ fs => belowL n fs
 | .tup vs => belowL n vs
 | _ => true
def belowL (n : Nat) : List PV → Bool
 | [] => true
 | x :: xs => belowB n x && belowL n xs
end
mutual
theorem VC.lower {E : Env} {c c' : Cx} {n : Nat} {x : PV} {cs : List Value} (h : VC E c x cs) (hp : belowB n x = true) (hI : ∀ k, c.I k → c'.I k) (hw : ∀ k, c.I k → c'.w.heap[k]? = c.w.heap[k]?) (hA : ∀ b, c.A b → b < n → c'.A b) (hmu : ∀ b m, c'.mu b = some m → c.mu b = some m) : VC E c' x cs :=
 match h with
 | .bool b => .bool b
 | .int k n => .int k n
 | .str s => .str s
 | .nilp => .nilp
 | .ptr b g i p v h1 hb hle h => .ptr b g i p v h1 (hA b hb (by simpa [belowB] using hp)) (fun m' hm => hle m' (hmu b m' hm)) fun m' hm hg => h m' (hmu b m' hm) hg
 | .laddr x k o cs ca t fz hIk hwk hx hwin => .laddr x k o cs ca t fz (hI _ hIk) ((hw _ hIk).trans hwk) (hx.lower (by simpa [belowB] using hp) hI hw hA hmu) hwin
 | .nils a => .nils a
 | .lit0 a n => .lit0 a n
 | .lit xs T k o cap cs ca t fz hIk hwk hx hwin hcap => .lit xs T k o cap cs ca t fz (hI _ hIk) ((hw _ hIk).trans hwk) (hx.ext ⟨hI, hw, fun _ h => h.elim, fun _ h => h.elim⟩) hwin hcap
 | .ref b g off len v h1 hb hle h => .ref b g off len v h1 (hA b hb (by simpa [belowB] using hp)) (fun m' hm => hle m' (hmu b m' hm)) fun m' hm hg => h m' (hmu b m' hm) hg
 | .nilm => .nilm
 | .map b v h1 hb h => .map b v h1 (hA b hb (by simpa [belowB] using hp)) fun m' hm hg => h m' (hmu b m' hm) hg
 | .nilf => .nilf
 | .fn f first cap vs us h1 h2 => by
  simp only [belowB, Bool.and_eq_true] at hp
  exact .fn f first cap vs us (h1.lower hp.1 hI hw hA hmu) (h2.lower hp.2 hI hw hA hmu)
 | .nili => .nili
 | .ifaceA t u fs cs h => .ifaceA t u fs cs (h.lower (by simpa [belowB] using hp) hI hw hA hmu)
 | .ifaceS t x v h1 h => .ifaceS t x v h1 (h.lower (by simpa [belowB] using hp) hI hw hA hmu)
 | .agg t fs cs h => .agg t fs cs (h.lower (by simpa [belowB] using hp) hI hw hA hmu)
theorem VCs.lower {E : Env} {c c' : Cx} {n : Nat} {Ts : List TypeId} {xs : List PV} {cs : List Value} (h : VCs E c Ts xs cs) (hp : belowL n xs = true) (hI : ∀ k, c.I k → c'.I k) (hw : ∀ k, c.I k → c'.w.heap[k]? = c.w.heap[k]?) (hA : ∀ b, c.A b → b < n → c'.A b) (hmu : ∀ b m, c'.mu b = some m → c.mu b = some m) : VCs E c' Ts xs cs :=
 match h with
 | .nil => .nil
 | .cons hf h hs => by
  simp only [belowL, Bool.and_eq_true] at hp
  exact .cons hf (h.lower hp.1 hI hw hA hmu) (hs.lower hp.2 hI hw hA hmu)
theorem VL.lower {E : Env} {c c' : Cx} {n : Nat} {xs : List PV} {vs : List Value} (h : VL E c xs vs) (hp : belowL n xs = true) (hI : ∀ k, c.I k → c'.I k) (hw : ∀ k, c.I k → c'.w.heap[k]? = c.w.heap[k]?) (hA : ∀ b, c.A b → b < n → c'.A b) (hmu : ∀ b m, c'.mu b = some m → c.mu b = some m) : VL E c' xs vs :=
 match h with
 | .nil => .nil
 | .undef hs => by
  simp only [belowL, Bool.and_eq_true] at hp
  exact .undef (hs.lower hp.2 hI hw hA hmu)
 | .one h1 hn h hs => by
  simp only [belowL, Bool.and_eq_true] at hp
  exact .one h1 hn (h.lower hp.1 hI hw hA hmu) (hs.lower hp.2 hI hw hA hmu)
 | .agg h hs => by
  simp only [belowL, belowB, Bool.and_eq_true] at hp
  exact .agg (h.lower (by simpa [belowB] using hp.1) hI hw hA hmu) (hs.lower hp.2 hI hw hA hmu)
 | .tup h hs => by
  simp only [belowL, belowB, Bool.and_eq_true] at hp
  exact .tup (h.lower hp.1 hI hw hA hmu) (hs.lower hp.2 hI hw hA hmu)
end
mutual
theorem below_of_pure (n : Nat) : ∀ (x : PV), pureB x = true → belowB n x = true
 | .fn _ a b, h => by
  simp only [pureB, Bool.and_eq_true] at h
  simp [belowB, belowL_of_pure n a h.1, belowL_of_pure n b h.2]
 | .iface _ x, h => by simpa [belowB] using below_of_pure n x (by simpa [pureB] using h)
 | .agg _ fs, h => by simpa [belowB] using belowL_of_pure n fs (by simpa [pureB] using h)
 | .tup vs, h => by simpa [belowB] using belowL_of_pure n vs (by simpa [pureB] using h)
 | .ptr .., h => by simp [pureB] at h
 | .ref .., h => by simp [pureB] at h
 | .map _, h => by simp [pureB] at h
 | .undef, h => by simp [pureB] at h
 | .bool _, _ => rfl
 | .int _ _, _ => rfl
 | .str _, _ => rfl
 | .nilp, _ => rfl
 | .laddr x, h => by simp only [pureB] at h; simp only [belowB]; exact below_of_pure n x h
 | .nils, _ => rfl
 | .lit _, _ => rfl
 | .nilm, _ => rfl
 | .nilf, _ => rfl
 | .nili, _ => rfl
theorem belowL_of_pure (n : Nat) : ∀ (xs : List PV), pureL xs = true → belowL n xs = true
 | [], _ => rfl
 | x :: xs, h => by
  simp only [pureL, Bool.and_eq_true] at h
  simp [belowL, below_of_pure n x h.1, belowL_of_pure n xs h.2]
end
theorem pureL_map {α : Type} (f : α → PV) (hf : ∀ a, pureB (f a) = true) : ∀ l : List α, pureL (l.map f) = true
 | [] => rfl
 | a :: l => by simp [pureL, hf a, pureL_map f hf l]
theorem belowL_app (n : Nat) : ∀ (l k : List PV), belowL n (l ++ k) = (belowL n l && belowL n k)
 | [], k => rfl
 | x :: l, k => by simp [belowL, belowL_app n l k, Bool.and_assoc]
def frz (σ : Store) : Nat → PV → Option PV
 | 0, _ => none
 | n + 1, x => match x with
  | .nils => some (.lit [])
  | .ref b g off len => match Store.at σ b with
   | some (.cells ty g' xs) => if g' = g ∧ off + len ≤ xs.length then (((xs.drop off).take len).mapM (frz σ n)).map .lit else none
   | _ => none
  | .agg t fs => (fs.mapM (frz σ n)).map (.agg t)
  | .tup vs => (vs.mapM (frz σ n)).map .tup
  | .ptr .. => none
  | .map _ => none
  | .undef => none
  | .fn f a b => if pureL a && pureL b then some (.fn f a b) else none
  | .iface t y => if pureB y then some (.iface t y) else none
  | .laddr y => if pureB y then some (.laddr y) else none
  | x => some x
theorem mapM_some {α β : Type} {f : α → Option β} : ∀ {l : List α} {r : List β}, l.mapM f = some r → r.length = l.length ∧ ∀ (i : Nat) (a : α), l[i]? = some a → ∃ b, f a = some b ∧ r[i]? = some b
 | [], r, h => by simp at h; subst h; exact ⟨rfl, fun i a h => by simp at h⟩
 | x :: l, r, h => by
  simp only [List.mapM_cons] at h
  obtain ⟨y, hy, h⟩ := Option.bind_eq_some_iff.1 h
  obtain ⟨ys, hys, h⟩ := Option.bind_eq_some_iff.1 h
  simp only [Option.pure_def, Option.some.injEq] at h; subst h
  obtain ⟨h1, h2⟩ := mapM_some hys
  refine ⟨by simp [h1], fun i a ha => ?_⟩
  cases i with
  | zero => simp at ha; subst ha; exact ⟨y, hy, rfl⟩
  | succ i => simpa using h2 i a (by simpa using ha)
theorem mapM_same {α : Type} {f : α → Option α} : ∀ {l : List α}, (∀ a ∈ l, f a = some a) → l.mapM f = some l
 | [], _ => by simp
 | x :: l, h => by
  have ih := mapM_same (f := f) (l := l) fun a ha => h a (by simp [ha])
  simp only [List.mapM_cons, h x (by simp), ih]; rfl
theorem fits_frz {E : Env} {σ : Store} {n : Nat} {x y : PV} {T : TypeId} (h : frz σ n x = some y) (hf : fits E T x = true) : fits E T y = true := by
 cases n with
 | zero => simp [frz] at h
 | succ n =>
  unfold frz at h
  split at h
  ·simp only [Option.some.injEq] at h; subst h; simpa [fits] using hf
  ·split at h
   ·split at h
    ·obtain ⟨ys, _, rfl⟩ := Option.map_eq_some_iff.1 h; simpa [fits] using hf
    ·simp at h
   ·simp at h
  ·obtain ⟨ys, _, rfl⟩ := Option.map_eq_some_iff.1 h; simpa [fits] using hf
  ·simp [fits] at hf
  ·simp at h
  ·simp at h
  ·simp at h
  ·split at h
   ·simp only [Option.some.injEq] at h; subst h; exact hf
   ·simp at h
  ·split at h
   ·simp only [Option.some.injEq] at h; subst h; exact hf
   ·simp at h
  ·split at h
   ·simp only [Option.some.injEq] at h; subst h; exact hf
   ·simp at h
  ·simp only [Option.some.injEq] at h; subst h; exact hf
def Cx.frozen (c : Cx) : Cx := { c with I := fun k => c.I k ∨ ∃ b m, c.mu b = some m ∧ m.blk = k, mu := fun _ => none, A := fun _ => False }
theorem VC.pureF {E : Env} {c : Cx} {x : PV} {cs : List Value} (h : VC E c x cs) (hp : pureB x = true) : VC E c.frozen x cs :=
 h.lower (n := 0) (below_of_pure 0 x hp) (fun _ h => .inl h) (fun _ _ => rfl) (fun _ _ h => absurd h (by omega)) (fun _ _ h => by simp [Cx.frozen] at h)
theorem VL.pureF {E : Env} {c : Cx} {x : List PV} {cs : List Value} (h : VL E c x cs) (hp : pureL x = true) : VL E c.frozen x cs :=
 h.lower (n := 0) (belowL_of_pure 0 x hp) (fun _ h => .inl h) (fun _ _ => rfl) (fun _ _ h => absurd h (by omega)) (fun _ _ h => by simp [Cx.frozen] at h)
theorem VCs.frz {E : Env} {c c' : Cx} {f : PV → Option PV} (hf : ∀ x y cs, VC E c x cs → f x = some y → VC E c' y cs) (hfit : ∀ T x y, f x = some y → fits E T x = true → fits E T y = true) :
  ∀ {Ts : List TypeId} {xs ys : List PV} {cs : List Value}, VCs E c Ts xs cs → xs.mapM f = some ys → VCs E c' Ts ys cs
 | _, _, ys, _, .nil, h => by simp at h; subst h; exact .nil
 | _, _, ys, _, .cons hfi hx hs, h => by
  simp only [List.mapM_cons] at h
  obtain ⟨y, hy, h⟩ := Option.bind_eq_some_iff.1 h
  obtain ⟨zs, hzs, h⟩ := Option.bind_eq_some_iff.1 h
  simp only [Option.pure_def, Option.some.injEq] at h; subst h
  exact .cons (hfit _ _ _ hy hfi) (hf _ _ _ hx hy) (VCs.frz hf hfit hs hzs)
theorem frz_VC {E : Env} (O : E.OK) {c : Cx} {σ : Store} (hn : Now E c σ) : ∀ (n : Nat) (x y : PV) (cs : List Value), VC E c x cs → frz σ n x = some y → VC E c.frozen y cs
 | 0, x, y, cs, h, hf => by simp [frz] at hf
 | n + 1, x, y, cs, h, hf => by
  have ih := frz_VC O hn n
  unfold frz at hf
  split at hf
  ·simp only [Option.some.injEq] at hf; subst hf
   cases h with | nils a => exact .lit0 a 0
  ·rename_i b g off len
   split at hf
   ·rename_i ty g' xs hb
    split at hf
    ·rename_i hc
     obtain ⟨rfl, hl⟩ := hc
     obtain ⟨ys, hys, rfl⟩ := Option.map_eq_some_iff.1 hf
     cases h with
     | ref _ _ _ _ v h1 hA hle hr =>
      obtain ⟨m, ca, el, fz, cs, j1, j2, j3, j4, j5, j6, j7, j8, j9⟩ := hn.blk hb
      obtain ⟨a, cap, rfl, hcap, hh⟩ := hr m j1 j2
      obtain ⟨hlen, _⟩ := mapM_some hys
      have hxl : ((xs.drop off).take len).length = len := by simp; omega
      have hyl : ys.length = len := by rw [hlen, hxl]
      rcases hh with rfl | ⟨rfl, hfit⟩
      ·have h0 : len = 0 := by omega
       subst h0
       have : ys = [] := List.eq_nil_of_length_eq_zero hyl
       subst this
       exact .lit0 a 0
      ·have v1 : VR E c ty xs cs := j6
       have v2 := (v1.drop O.toFine off).take O.toFine len
       have v3 : VCs E c.frozen (List.replicate ((xs.drop off).take len).length ty) ys _ := VCs.frz (fun x y cs => ih x y cs) (fun T x y h hf => fits_frz h hf) v2 hys
       have hw2 := LW.win j7 ((LW_drop cs (off * E.size ty)).trans (LW_take (cs.drop (off * E.size ty)) (len * E.size ty)))
       simp only [Nat.add_zero] at hw2
       have v4 : VCs E c.frozen.pure (List.replicate ys.length ty) ys (List.take (len * E.size ty) (List.drop (off * E.size ty) cs)) := by rw [hlen]; exact v3
       have := VC.lit (E := E) (c := c.frozen) ys ty m.blk (m.base + off * E.size ty) cap _ ca el fz (.inr ⟨b, m, j1, rfl⟩) j4 v4 hw2 (by omega)
       rw [hyl] at this; rw [j3]; exact this
    ·simp at hf
   ·simp at hf
  ·obtain ⟨ys, hys, rfl⟩ := Option.map_eq_some_iff.1 hf
   cases h with
   | agg _ _ _ h => exact .agg _ _ _ (VCs.frz (fun x y cs => ih x y cs) (fun T x y h hf => fits_frz h hf) h hys)
  ·cases h
  ·simp at hf
  ·simp at hf
  ·simp at hf
  ·split at hf
   ·rename_i hp
    simp only [Option.some.injEq] at hf; subst hf
    exact h.pureF (by simpa [pureB] using hp)
   ·simp at hf
  ·split at hf
   ·rename_i hp
    simp only [Option.some.injEq] at hf; subst hf
    exact h.pureF (by simpa [pureB] using hp)
   ·simp at hf
  ·split at hf
   ·rename_i hp
    simp only [Option.some.injEq] at hf; subst hf
    exact h.pureF (by simpa [pureB] using hp)
   ·simp at hf
  ·rename_i h1 h2 h3 h4 h5 h6 h7 h8 h9 h10
   simp only [Option.some.injEq] at hf; subst hf
   refine h.pureF ?_
   cases x <;> first | rfl | exact (h5 _ _ _ _ rfl).elim | exact (h2 _ _ _ _ rfl).elim | (simp_all; done)
theorem frz_agg {σ : Store} {n : Nat} {x : PV} {t : TypeId} {fs : List PV} (h : frz σ n x = some (.agg t fs)) : ∃ gs, x = .agg t gs := by
 cases n with
 | zero => simp [frz] at h
 | succ n =>
  unfold frz at h
  split at h <;> (try (split at h)) <;> (try (split at h)) <;> simp only [Option.map_eq_some_iff, Option.some.injEq, reduceCtorEq, and_false, exists_false, PV.agg.injEq] at h
  all_goals first
   | (obtain ⟨ys, _, rfl, rfl⟩ := h; exact ⟨_, rfl⟩)
   | (subst h; exact ⟨_, rfl⟩)
theorem VL.frz1 {E : Env} (O : E.OK) {c : Cx} {σ : Store} (hn : Now E c σ) : ∀ (n : Nat) {xs ys : List PV} {vs : List Value}, VL E c xs vs → xs.mapM (Proofs.YtdplbgfokoajjaaGreat.frz σ n) = some ys → VL E c.frozen ys vs
 | n, _, ys, _, .nil, h => by simp at h; subst h; exact .nil
 | n, _, ys, _, .undef hs, h => by
  simp only [List.mapM_cons] at h
  obtain ⟨y, hy, h⟩ := Option.bind_eq_some_iff.1 h
  cases n <;> simp [Proofs.YtdplbgfokoajjaaGreat.frz] at hy
 | n, _, ys, _, .one (x := x) h1 hnx hv hs, h => by
  simp only [List.mapM_cons] at h
  obtain ⟨y, hy, h⟩ := Option.bind_eq_some_iff.1 h
  obtain ⟨zs, hzs, h⟩ := Option.bind_eq_some_iff.1 h
  simp only [Option.pure_def, Option.some.injEq] at h; subst h
  refine .one h1 (fun t fs e => ?_) (frz_VC O hn n _ _ _ hv hy) (hs.frz1 O hn n hzs)
  subst e
  obtain ⟨gs, rfl⟩ := frz_agg hy
  exact hnx _ _ rfl
 | n, _, ys, _, .agg hv hs, h => by
  simp only [List.mapM_cons] at h
  obtain ⟨y, hy, h⟩ := Option.bind_eq_some_iff.1 h
  obtain ⟨zs, hzs, h⟩ := Option.bind_eq_some_iff.1 h
  simp only [Option.pure_def, Option.some.injEq] at h; subst h
  have := frz_VC O hn n _ _ _ hv hy
  cases n with
  | zero => simp [Proofs.YtdplbgfokoajjaaGreat.frz] at hy
  | succ n =>
   simp only [Proofs.YtdplbgfokoajjaaGreat.frz] at hy
   obtain ⟨fs', _, rfl⟩ := Option.map_eq_some_iff.1 hy
   exact .agg this (hs.frz1 O hn (n + 1) hzs)
 | 0, _, ys, _, .tup hv hs, h => by
  simp only [List.mapM_cons] at h
  obtain ⟨y, hy, h⟩ := Option.bind_eq_some_iff.1 h
  simp [Proofs.YtdplbgfokoajjaaGreat.frz] at hy
 | n + 1, _, ys, _, .tup hv hs, h => by
  simp only [List.mapM_cons] at h
  obtain ⟨y, hy, h⟩ := Option.bind_eq_some_iff.1 h
  obtain ⟨zs, hzs, h⟩ := Option.bind_eq_some_iff.1 h
  simp only [Option.pure_def, Option.some.injEq] at h; subst h
  simp only [Proofs.YtdplbgfokoajjaaGreat.frz] at hy
  obtain ⟨us, hus, rfl⟩ := Option.map_eq_some_iff.1 hy
  exact .tup (hv.frz1 O hn n hus) (hs.frz1 O hn (n + 1) hzs)
theorem V.frz {E : Env} (O : E.OK) {c : Cx} {σ : Store} (hn : Now E c σ) {n : Nat} {x y : PV} {v : Value} (h : V E c x v) (hf : Proofs.YtdplbgfokoajjaaGreat.frz σ n x = some y) : V E c.frozen y v :=
 VL.frz1 O hn n h (by simp [hf])
def frzRe (σ : Store) (R : Re → Store → Prop) (re : Re) (σ' : Store) : Prop :=
 match re with
 | .ret r => (match frz σ' 6 r with | some y => R (.ret y) σ | none => False)
 | .pan r => (match frz σ' 6 r with | some y => R (.pan y) σ | none => False)
theorem C_pure {E : Env} (O : E.OK) {f : FuncId} {args : List PV} {σ : Store} {R : Re → Store → Prop} (hp : pureL args = true) (h : C E f args [] (frzRe σ R)) : C E f args σ R := fun cx vs hn hv => by
 let cx0 : Cx := { cx with F := fun k => cx.F k ∨ ∃ b m, cx.mu b = some m ∧ m.blk = k, mu := fun _ => none, A := fun _ => False, top := 0 }
 have hn0 : Now E cx0 [] := ⟨Nat.le_refl _, fun b h => h.elim, fun k h => .inl (hn.IF k h), fun k h => by
  rcases h with h | ⟨b, m, h1, h2⟩
  ·exact hn.imm k h
  ·obtain ⟨_, _, h3, _⟩ := hn.dom b m h1; exact h2 ▸ h3, fun b m h => by simp [cx0] at h, fun b blk h => by simp at h, fun b b' m m' h => by simp [cx0] at h, fun b m h => by simp [cx0] at h⟩
 have hv0 : VL E cx0 args vs.toList := hv.lower (n := 0) (belowL_of_pure 0 args hp) (fun _ h => h) (fun _ _ => rfl) (fun _ _ h => absurd h (by omega)) (fun _ _ h => by simp [cx0] at h)
 refine (h cx0 vs hn0 hv0).mono ?_
 rintro e w' ⟨re, σ1, cx1, rfl, h2, h3, h4, h5⟩
 let cx' : Cx := { cx with I := cx1.frozen.I, F := fun k => cx.F k ∨ cx1.frozen.I k, w := cx1.w }
 have hIlive : ∀ b m, cx.mu b = some m → ¬ cx1.frozen.I m.blk := fun b m hm hI => by
  obtain ⟨_, _, hlt, hF, _⟩ := hn.dom b m hm
  rcases hI with h | ⟨x, mx, hx, he⟩
  ·rcases h5.grow _ h with h | h | ⟨x, mx, hx, _⟩
   ·exact hF (hn.IF _ h)
   ·exact absurd hlt (by show ¬ _ < _; exact Nat.not_lt.2 h)
   ·simp [cx0] at hx
  ·rcases h5.muold x mx hx with h | ⟨y, my, hy, _⟩
   ·rw [he] at h; exact absurd hlt (Nat.not_lt.2 h)
   ·simp [cx0] at hy
 have hIlt : ∀ k, cx1.frozen.I k → k < cx1.w.heap.size := fun k h => by
  rcases h with h | ⟨x, mx, hx, he⟩
  ·exact h4.immI k h
  ·obtain ⟨_, _, h, _⟩ := h4.dom x mx hx; exact he ▸ h
 have hext : Ext cx cx' := ⟨fun k hk => .inl (h5.ext.I k hk), fun k hk => h5.keeps k (.inl (hn.IF k hk)), fun b h => h, fun b hb m h => ⟨m, h, Nat.le_refl _, fun _ => rfl⟩⟩
 have hn' : Now E cx' σ := ⟨hn.top, hn.A, fun k h => .inr h, fun k h => by
   rcases h with h | h
   ·exact Nat.lt_of_lt_of_le (hn.imm k h) h5.size
   ·exact hIlt k h, fun b m hm => by
   obtain ⟨blk, k1, k2, k3, k4⟩ := hn.dom b m hm
   refine ⟨blk, k1, Nat.lt_of_lt_of_le k2 h5.size, ?_, k4.ext hext (h5.keeps _ (.inr ⟨b, m, hm, rfl⟩))⟩
   rintro (h | h)
   ·exact k3 h
   ·exact hIlive b m hm h, hn.live, hn.inj, hn.base⟩
 have hs' : Step cx cx' := ⟨hext, fun k h => .inl h, fun k hk => h5.keeps k (.inl hk), fun k hk => by
   rcases hk with h | ⟨x, mx, hx, he⟩
   ·rcases h5.grow _ h with h | h | ⟨x, mx, hx, _⟩
    ·exact .inl h
    ·exact .inr (.inl h)
    ·simp [cx0] at hx
   ·rcases h5.muold x mx hx with h | ⟨y, my, hy, _⟩
    ·exact .inr (.inl (he ▸ h))
    ·simp [cx0] at hy, fun b m hm => .inr ⟨b, m, hm, rfl⟩, rfl, fun _ h => .inl h, h5.size, h5.os, h5.tape, h5.output⟩
 have hx1 : Ext cx1.frozen cx' := ⟨fun k h => h, fun _ _ => rfl, fun _ h => h.elim, fun _ h => h.elim⟩
 cases re with
 | ret r =>
  cases e <;> simp only [ReOK] at h3
  simp only [frzRe] at h2
  split at h2
  ·rename_i y hy
   exact ⟨.ret y, σ, cx', rfl, h2, (h3.frz O h4 hy).ext hx1, hn', hs'⟩
  ·exact h2.elim
 | pan r =>
  cases e <;> simp only [ReOK] at h3
  simp only [frzRe] at h2
  obtain ⟨v, hch, h3⟩ := h3
  split at h2
  ·rename_i y hy
   exact ⟨.pan y, σ, cx', rfl, h2, ⟨v, hch, (h3.frz O h4 hy).ext hx1⟩, hn', hs'⟩
  ·exact h2.elim
def idOf : PV → List Nat
 | .ptr b _ _ _ => [b]
 | .ref b _ _ _ => [b]
 | .map b => [b]
 | _ => []
def foot (op : Op) (fr : Fr) : List Nat :=
 match op with
 | .move _ | .assign _ | .pick _ _ _ => []
 | op => op.operands.toList.flatMap fun x => match Fr.eval fr x with | some v => idOf v | none => []
def still : Op → Bool
 | .move _ | .assign _ | .pick _ _ _ => true
 | _ => false
theorem foot_eq {op : Op} (fr : Fr) (h : still op = false) : foot op fr = op.operands.toList.flatMap fun x => match Fr.eval fr x with | some v => idOf v | none => [] := by
 cases op <;> first | rfl | simp [still] at h
def refId : PV → Option Nat
 | .ref b _ _ _ => some b
 | _ => none
def Store.wr (σ : Store) : Option (Nat × Blk) → Store
 | none => σ
 | some (b, x) => σ.set b (some x)
section
variable {E : Env} {σ τ : Store}
structure Near (op : Op) (fr fr' : Fr) (σ τ : Store) : Prop where
 ev : ∀ x ∈ op.operands, Fr.eval fr' x = Fr.eval fr x
 mem : ∀ b ∈ foot op fr, Store.at τ b = Store.at σ b
theorem Near.ids {op : Op} {fr fr' : Fr} (h : Near op fr fr' σ τ) {x : Operand} {v : PV} (hx : x ∈ op.operands) (hv : Fr.eval fr x = some v) (hs : still op = false := by rfl) : ∀ b ∈ idOf v, Store.at τ b = Store.at σ b :=
 fun b hb => h.mem b (by rw [foot_eq fr hs]; exact List.mem_flatMap.2 ⟨x, by simpa using hx, by rw [hv]; exact hb⟩)
theorem foot_mem {op : Op} {fr : Fr} {x : Operand} {v : PV} (hx : x ∈ op.operands) (hv : Fr.eval fr x = some v) {b : Nat} (hb : b ∈ idOf v) (hs : still op = false := by rfl) : b ∈ foot op fr := by
 rw [foot_eq fr hs]; exact List.mem_flatMap.2 ⟨x, by simpa using hx, by rw [hv]; exact hb⟩
theorem sLoad_loc {T : TypeId} {x : PV} (h : ∀ b ∈ idOf x, Store.at τ b = Store.at σ b) : sLoad E T x τ = sLoad E T x σ := by
 cases x <;> first | rfl | (simp only [idOf, List.mem_cons, List.not_mem_nil, or_false, forall_eq] at h; simp only [sLoad, h])
theorem sFieldAddr_loc {T : TypeId} {x : PV} {k : Nat} (h : ∀ b ∈ idOf x, Store.at τ b = Store.at σ b) : sFieldAddr E T x k τ = sFieldAddr E T x k σ := by
 cases x <;> first | rfl | (rename_i y; cases y <;> rfl) | (simp only [idOf, List.mem_cons, List.not_mem_nil, or_false, forall_eq] at h; simp only [sFieldAddr, h])
theorem sIndexAddr_loc {T : TypeId} {x : PV} {k : Int} (h : ∀ b ∈ idOf x, Store.at τ b = Store.at σ b) : sIndexAddr E T x k τ = sIndexAddr E T x k σ := by
 unfold sIndexAddr; generalize E.td T = d; cases d <;> cases x <;> first | rfl | (simp only [idOf, List.mem_cons, List.not_mem_nil, or_false, forall_eq] at h; simp only [h])
theorem sNilCheck_loc {x : PV} (h : ∀ b ∈ idOf x, Store.at τ b = Store.at σ b) : sNilCheck x τ = sNilCheck x σ := by
 cases x <;> first | rfl | (simp only [idOf, List.mem_cons, List.not_mem_nil, or_false, forall_eq] at h; simp only [sNilCheck, h])
theorem sSlice_loc {T : TypeId} {x : PV} {a b c : Option Int} (h : ∀ b ∈ idOf x, Store.at τ b = Store.at σ b) : sSlice E T x a b c τ = sSlice E T x a b c σ := by
 unfold sSlice; generalize E.td T = d; cases d <;> cases x <;> first | rfl | (simp only [idOf, List.mem_cons, List.not_mem_nil, or_false, forall_eq] at h; simp only [h])
theorem sLen_loc {T : TypeId} {x : PV} (h : ∀ b ∈ idOf x, Store.at τ b = Store.at σ b) : sLen E T x τ = sLen E T x σ := by
 unfold sLen; generalize E.td T = d; cases d <;> cases x <;> first | rfl | (simp only [idOf, List.mem_cons, List.not_mem_nil, or_false, forall_eq] at h; simp only [h])
theorem sList_loc {x : PV} (h : ∀ b ∈ idOf x, Store.at τ b = Store.at σ b) : sList x τ = sList x σ := by
 cases x <;> first | rfl | (simp only [idOf, List.mem_cons, List.not_mem_nil, or_false, forall_eq] at h; simp only [sList, h])
theorem sApp_loc {e : TypeId} {x : PV} {z : Bool} (h : ∀ b ∈ idOf x, Store.at τ b = Store.at σ b) : sApp E e x τ z = sApp E e x σ z := by
 cases z <;> simp only [sApp, Bool.false_eq_true, if_false, if_true]; exact sList_loc h
theorem Store.new_wr {σ : Store} {nid : Nat} (h : nid < σ.length) (x : Blk) : Store.new σ nid x = σ.wr (some (nid, x)) := by simp [Store.new, h, Store.wr]
def wid (op : Op) (fr : Fr) (nid : Nat) (v : PV) : Option Nat :=
 match op with
 | .alloc _ | .box _ _ | .buildSlice _ _ _ | .makeSlice _ _ _ => some nid
 | .store _ x _ => match Fr.eval fr x with | some (.ptr b _ _ _) => some b | _ => none
 | .makeMap _ _ => some nid
 | .mapUpdate _ m _ _ => match Fr.eval fr m with | some (.map b) => some b | _ => none
 | .call c => match c.callee, c.args.toList with
  | .builtin .delete, [m, _] => match Fr.eval fr m with | some (.map b) => some b | _ => none
  | _, _ => refId v
 | _ => none
def Loc (E : Env) (op : Op) (fr : Fr) (σ : Store) (nid : Nat) (v : PV) (σ' : Store) : Prop :=
 ∃ w : Option (Nat × Blk), w.map (·.1) = wid op fr nid v ∧ σ' = σ.wr w ∧ (∀ p, w = some p → (p.1 ∈ foot op fr ∨ p.1 = nid) ∧ p.1 < σ.length) ∧ ∀ fr' τ, Near op fr fr' σ τ → nid < τ.length → sop E op fr' τ nid = some (v, τ.wr w)
theorem sStore_loc {T : TypeId} {x v : PV} {σ' : Store} (h : sStore E T x v σ = some σ') : ∃ b blk, (∃ g i p, x = .ptr b g i p) ∧ b ∈ idOf x ∧ b < σ.length ∧ σ' = σ.set b (some blk) ∧ ∀ τ, (∀ b ∈ idOf x, Store.at τ b = Store.at σ b) → sStore E T x v τ = some (τ.set b (some blk)) := by
 unfold sStore at h
 split at h
 ·rename_i b g i p
  split at h
  ·rename_i ty g' xs hb
   split at h
   ·rename_i hg
    split at h
    ·rename_i e he
     split at h
     ·rename_i e' he'
      split at h
      ·rename_i hc
       simp only [Option.some.injEq] at h; subst h
       refine ⟨b, _, ⟨_, _, _, rfl⟩, by simp [idOf], getElem?_lt (Store.at_some hb), rfl, fun τ ht => ?_⟩
       have := ht b (by simp [idOf])
       simp [sStore, this, hb, hg, he, he', hc]
      ·simp at h
     ·simp at h
    ·simp at h
   ·simp at h
  ·simp at h
 ·simp at h
theorem sLookup_loc {T : TypeId} {x k : PV} {ok : Bool} (h : ∀ b ∈ idOf x, Store.at τ b = Store.at σ b) : sLookup E T x k ok τ = sLookup E T x k ok σ := by
 unfold sLookup; generalize E.td T = d; cases d <;> cases x <;> first | rfl | (simp only [idOf, List.mem_cons, List.not_mem_nil, or_false, forall_eq] at h; simp only [h])
theorem sMapSet_loc {T : TypeId} {x k v : PV} {σ' : Store} (h : sMapSet E T x k v σ = some σ') : ∃ b blk, x = .map b ∧ b < σ.length ∧ σ' = σ.set b (some blk) ∧ ∀ τ, (∀ b ∈ idOf x, Store.at τ b = Store.at σ b) → sMapSet E T x k v τ = some (τ.set b (some blk)) := by
 unfold sMapSet at h
 split at h
 ·rename_i K e b hT
  split at h
  ·rename_i kl K' es hk hb
   split at h
   ·rename_i hc
    simp only [Option.some.injEq] at h; subst h
    refine ⟨b, _, rfl, getElem?_lt (Store.at_some hb), rfl, fun τ ht => ?_⟩
    have := ht b (by simp [idOf])
    unfold sMapSet
    simp only [hT, hk, this, hb]
    rw [if_pos hc]
   ·simp at h
  ·simp at h
 ·simp at h
theorem sMapDel_loc {T K : TypeId} {x k : PV} {σ' : Store} (h : sMapDel E T K x k σ = some σ') : ∃ b blk, x = .map b ∧ b < σ.length ∧ σ' = σ.set b (some blk) ∧ ∀ τ, (∀ b ∈ idOf x, Store.at τ b = Store.at σ b) → sMapDel E T K x k τ = some (τ.set b (some blk)) := by
 unfold sMapDel at h
 split at h
 ·rename_i K0 e b hT
  split at h
  ·rename_i kl K' es hk hb
   split at h
   ·rename_i hc
    simp only [Option.some.injEq] at h; subst h
    refine ⟨b, _, rfl, getElem?_lt (Store.at_some hb), rfl, fun τ ht => ?_⟩
    have := ht b (by simp [idOf])
    unfold sMapDel
    simp only [hT, hk, this, hb]
    rw [if_pos hc]
   ·simp at h
  ·simp at h
 ·simp at h
theorem sAppend_loc {e : TypeId} {s : PV} {ys : List PV} {nid : Nat} {v : PV} {σ' : Store} (hn : nid < σ.length) (h : sAppend E e s ys σ nid = some (v, σ')) :
  ∃ w : Option (Nat × Blk), w.map (·.1) = refId v ∧ σ' = σ.wr w ∧ (∀ p, w = some p → (p.1 ∈ idOf s ∨ p.1 = nid) ∧ p.1 < σ.length) ∧ ∀ τ, (∀ b ∈ idOf s, Store.at τ b = Store.at σ b) → nid < τ.length → sAppend E e s ys τ nid = some (v, τ.wr w) := by
 unfold sAppend at h
 split at h
 ·split at h
  ·simp only [Option.some.injEq, Prod.mk.injEq] at h; obtain ⟨rfl, rfl⟩ := h
   exact ⟨none, rfl, rfl, by simp, fun τ _ _ => by simp [sAppend, Store.wr]⟩
  ·rename_i hne
   split at h
   ·rename_i hc
    simp only [Option.some.injEq, Prod.mk.injEq] at h; obtain ⟨rfl, rfl⟩ := h
    refine ⟨some (nid, .cells e 0 ys), rfl, Store.new_wr hn _, by simp [hn], fun τ _ ht => ?_⟩
    unfold sAppend
    simp only
    rw [if_pos hc, Store.new_wr ht]
   ·simp at h
 ·rename_i b g off len
  split at h
  ·rename_i ty g' xs hb
   split at h
   ·rename_i hc
    simp only [Option.some.injEq, Prod.mk.injEq] at h; obtain ⟨rfl, rfl⟩ := h
    refine ⟨some (b, _), rfl, rfl, fun p hp => ?_, fun τ h1 ht => ?_⟩
    ·simp only [Option.some.injEq] at hp; subst hp
     exact ⟨.inl (by simp [idOf]), getElem?_lt (Store.at_some hb)⟩
    ·have := h1 b (by simp [idOf])
     unfold sAppend
     simp only [this, hb]
     rw [if_pos hc]; rfl
   ·simp at h
  ·simp at h
 ·simp at h
theorem mapM_near {f g : Operand → Option PV} : ∀ (l : List Operand), (∀ x ∈ l, g x = f x) → l.mapM g = l.mapM f
 | [], _ => rfl
 | x :: l, h => by simp only [List.mapM_cons]; rw [h x (by simp), mapM_near l fun y hy => h y (by simp [hy])]
theorem evalParts_near {fr fr' : Fr} : ∀ (l : List (Nat × Operand)), (∀ x ∈ l.map (·.2), Fr.eval fr' x = Fr.eval fr x) → evalParts fr' l = evalParts fr l
 | [], _ => rfl
 | x :: l, h => by
  have ih := evalParts_near (fr := fr) (fr' := fr') l fun y hy => h y (by simp at hy ⊢; exact .inr hy)
  unfold evalParts at ih ⊢
  simp only [List.mapM_cons]; rw [h x.2 (by simp), ih]
theorem optEval_near {fr fr' : Fr} {x : Option Operand} (h : ∀ y, x = some y → Fr.eval fr' y = Fr.eval fr y) : optEval fr' x = optEval fr x := by
 cases x with
 | none => rfl
 | some y => simp only [optEval]; rw [h y rfl]
theorem Loc.same {op : Op} {fr : Fr} {nid : Nat} {v : PV} (hw : wid op fr nid v = none) (h : ∀ fr' τ, Near op fr fr' σ τ → sop E op fr' τ nid = some (v, τ)) : Loc E op fr σ nid v σ := ⟨none, by rw [hw]; rfl, rfl, by simp, fun fr' τ hN _ => h fr' τ hN⟩
theorem Loc.fresh {op : Op} {fr : Fr} {nid : Nat} {v : PV} {x : Blk} (hn : nid < σ.length) (hw : wid op fr nid v = some nid) (h : ∀ fr' τ, Near op fr fr' σ τ → sop E op fr' τ nid = some (v, Store.new τ nid x)) : Loc E op fr σ nid v (Store.new σ nid x) :=
 ⟨some (nid, x), by rw [hw]; rfl, Store.new_wr hn x, by simp [hn], fun fr' τ hN ht => by rw [← Store.new_wr ht]; exact h fr' τ hN⟩
theorem builtin_loc {c : Call} {b : Builtin} {fr : Fr} {nid : Nat} {v : PV} {σ' : Store} (hc : c.callee = .builtin b) (hn : nid < σ.length) (h : sBuiltin E b c.args.toList c.argTypes.toList fr σ nid = some (v, σ')) : Loc E (.call c) fr σ nid v σ' := by
 have hs : ∀ fr' τ, sop E (.call c) fr' τ nid = sBuiltin E b c.args.toList c.argTypes.toList fr' τ nid := fun fr' τ => by simp only [sop, hc]
 have hop : ∀ x, x ∈ c.args.toList → x ∈ (Op.call c).operands := fun x hx => by simp only [Op.operands, Call.operands]; simp [Array.mem_toList_iff.1 hx]
 unfold sBuiltin at h
 split at h
 ·rename_i x T hA hT
  split at h
  ·rename_i xv hx
   split at h
   ·rename_i hk
    obtain ⟨r, hr, hh⟩ := Option.map_eq_some_iff.1 h
    simp only [Prod.mk.injEq] at hh; obtain ⟨rfl, rfl⟩ := hh
    refine .same (by simp only [wid, hc]; first | rfl | (unfold sLen at hr; split at hr <;> first | (simp at hr; done) | (simp only [Option.some.injEq] at hr; subst hr; rfl) | (split at hr <;> first | (simp at hr; done) | (split at hr <;> first | (simp at hr; done) | (simp only [Option.some.injEq] at hr; subst hr; rfl))))) fun fr' τ hN => ?_
    have m := hop x (by simp [hA])
    rw [hs, hA, hT]; simp only [sBuiltin, hN.ev x m, hx, hk, if_true, sLen_loc (hN.ids m hx), hr, Option.map_some]
   ·simp at h
  ·simp at h
 ·rename_i x y hA
  split at h
  ·rename_i k a k' b hx hy
   split at h
   ·rename_i e; subst e
    simp only [Option.some.injEq, Prod.mk.injEq] at h; obtain ⟨rfl, rfl⟩ := h
    refine .same (by simp only [wid, hc]; first | rfl | (unfold sLen at hr; split at hr <;> first | (simp at hr; done) | (simp only [Option.some.injEq] at hr; subst hr; rfl) | (split at hr <;> first | (simp at hr; done) | (split at hr <;> first | (simp at hr; done) | (simp only [Option.some.injEq] at hr; subst hr; rfl))))) fun fr' τ hN => ?_
    rw [hs, hA]; simp only [sBuiltin, hN.ev x (hop x (by simp [hA])), hN.ev y (hop y (by simp [hA])), hx, hy, if_true]
   ·simp at h
  ·simp at h
 ·rename_i x y hA
  split at h
  ·rename_i k a k' b hx hy
   split at h
   ·rename_i e; subst e
    simp only [Option.some.injEq, Prod.mk.injEq] at h; obtain ⟨rfl, rfl⟩ := h
    refine .same (by simp only [wid, hc]; first | rfl | (unfold sLen at hr; split at hr <;> first | (simp at hr; done) | (simp only [Option.some.injEq] at hr; subst hr; rfl) | (split at hr <;> first | (simp at hr; done) | (split at hr <;> first | (simp at hr; done) | (simp only [Option.some.injEq] at hr; subst hr; rfl))))) fun fr' τ hN => ?_
    rw [hs, hA]; simp only [sBuiltin, hN.ev x (hop x (by simp [hA])), hN.ev y (hop y (by simp [hA])), hx, hy, if_true]
   ·simp at h
  ·simp at h
 ·rename_i x y z hA
  split at h
  ·rename_i k a k' b k'' d hx hy hz
   split at h
   ·rename_i e
    simp only [Option.some.injEq, Prod.mk.injEq] at h; obtain ⟨rfl, rfl⟩ := h
    refine .same (by simp only [wid, hc]; first | rfl | (unfold sLen at hr; split at hr <;> first | (simp at hr; done) | (simp only [Option.some.injEq] at hr; subst hr; rfl) | (split at hr <;> first | (simp at hr; done) | (split at hr <;> first | (simp at hr; done) | (simp only [Option.some.injEq] at hr; subst hr; rfl))))) fun fr' τ hN => ?_
    rw [hs, hA]; simp only [sBuiltin, hN.ev x (hop x (by simp [hA])), hN.ev y (hop y (by simp [hA])), hN.ev z (hop z (by simp [hA])), hx, hy, hz, if_pos e]
   ·simp at h
  ·simp at h
 ·rename_i s x S X hA hT
  have ms := hop s (by simp [hA])
  have mx := hop x (by simp [hA])
  split at h
  ·rename_i sv xv e hsv hxv hS hX
   split at h
   ·rename_i ys hys
    split at h
    ·rename_i hcn
     obtain ⟨w, e0, e1, e2, e3⟩ := sAppend_loc hn h
     refine ⟨w, by simp only [wid, hc]; exact e0, e1, fun p hp => ⟨(e2 p hp).1.imp (foot_mem ms hsv) id, (e2 p hp).2⟩, fun fr' τ hN ht => ?_⟩
     rw [hs, hA, hT]
     unfold sBuiltin
     simp only [hN.ev s ms, hN.ev x mx, hsv, hxv, hS, hX, sApp_loc (hN.ids mx hxv), hys]
     rw [if_pos hcn]
     exact e3 τ (hN.ids ms hsv) ht
    ·simp at h
   ·simp at h
  ·rename_i sv xv e hsv hxv hS hne
   split at h
   ·rename_i ys hys
    split at h
    ·rename_i hcn
     obtain ⟨w, e0, e1, e2, e3⟩ := sAppend_loc hn h
     refine ⟨w, by simp only [wid, hc]; exact e0, e1, fun p hp => ⟨(e2 p hp).1.imp (foot_mem ms hsv) id, (e2 p hp).2⟩, fun fr' τ hN ht => ?_⟩
     rw [hs, hA, hT]
     unfold sBuiltin
     simp only [hN.ev s ms, hN.ev x mx, hsv, hxv, hS]
     rcases hcn.2.2.1 with hX | hX
     ·simp only [hX] at hcn ⊢
      simp only [sList_loc (hN.ids mx hxv), hys]
      rw [if_pos hcn]
      exact e3 τ (hN.ids ms hsv) ht
     ·simp only [hX] at hcn ⊢
      simp only [sList_loc (hN.ids mx hxv), hys]
      rw [if_pos hcn]
      exact e3 τ (hN.ids ms hsv) ht
    ·simp at h
   ·simp at h
  ·simp at h
 ·rename_i x T hA hT
  have mx := hop x (by simp [hA])
  split at h
  ·rename_i e hx hS
   split at h
   ·rename_i hk
    simp only [Option.some.injEq, Prod.mk.injEq] at h; obtain ⟨rfl, rfl⟩ := h
    refine .same (by simp only [wid, hc]; rfl) fun fr' τ hN => ?_
    rw [hs, hA, hT]; simp only [sBuiltin, hN.ev x mx, hx, hS, hk, if_true]
   ·simp at h
  ·simp at h
 ·rename_i m x T K hA hT
  have mm := hop m (by simp [hA])
  have mx := hop x (by simp [hA])
  split at h
  ·rename_i mv xv hm hx
   split at h
   ·rename_i hk
    obtain ⟨r, hr, hh⟩ := Option.map_eq_some_iff.1 h
    simp only [Prod.mk.injEq] at hh; obtain ⟨rfl, rfl⟩ := hh
    obtain ⟨b, blk, rfl, e2, rfl, e3⟩ := sMapDel_loc hr
    refine ⟨some (b, blk), by simp [wid, hc, hA, hm], rfl, fun p hp => by simp only [Option.some.injEq] at hp; subst hp; exact ⟨.inl (foot_mem mm hm (by simp [idOf])), e2⟩, fun fr' τ hN ht => ?_⟩
    rw [hs, hA, hT]
    unfold sBuiltin
    simp only [hN.ev m mm, hN.ev x mx, hm, hx, hk, if_true, e3 τ (hN.ids mm hm), Store.wr, Option.map_some]
   ·simp at h
  ·simp at h
 ·simp at h
theorem sop_loc {op : Op} {fr : Fr} {nid : Nat} {v : PV} {σ' : Store} (h : sop E op fr σ nid = some (v, σ')) (hn : nid < σ.length) : Loc E op fr σ nid v σ' := by
 have h0 := h
 unfold sop at h
 split at h
 ·rename_i x
  obtain ⟨r, hr, hh⟩ := Option.map_eq_some_iff.1 h
  simp only [Prod.mk.injEq] at hh; obtain ⟨rfl, rfl⟩ := hh
  exact .same rfl fun fr' τ hN => by simp [sop, hN.ev x (by simp [Op.operands]), hr]
 ·rename_i x
  obtain ⟨r, hr, hh⟩ := Option.map_eq_some_iff.1 h
  simp only [Prod.mk.injEq] at hh; obtain ⟨rfl, rfl⟩ := hh
  exact .same rfl fun fr' τ hN => by simp [sop, hN.ev x (by simp [Op.operands]), hr]
 ·rename_i c a b
  split at h
  ·rename_i t hc
   obtain ⟨r, hr, hh⟩ := Option.map_eq_some_iff.1 h
   simp only [Prod.mk.injEq] at hh; obtain ⟨rfl, rfl⟩ := hh
   refine .same rfl fun fr' τ hN => ?_
   cases t <;> simp only [if_true, Bool.false_eq_true, if_false] at hr <;> simp [sop, hN.ev c (by simp [Op.operands]), hN.ev a (by simp [Op.operands]), hN.ev b (by simp [Op.operands]), hc, hr]
  ·simp at h
 ·split at h
  ·rename_i hk
   simp only [Option.some.injEq, Prod.mk.injEq] at h; obtain ⟨rfl, rfl⟩ := h
   exact .fresh hn rfl fun fr' τ hN => by simp [sop, hk]
  ·simp at h
 ·rename_i T x
  split at h
  ·rename_i v hx
   split at h
   ·rename_i hk
    simp only [Option.some.injEq, Prod.mk.injEq] at h; obtain ⟨rfl, rfl⟩ := h
    exact .fresh hn rfl fun fr' τ hN => by simp [sop, hk, hN.ev x (by simp [Op.operands]), hx]
   ·simp at h
  ·simp at h
 ·rename_i T x
  split at h
  ·rename_i v hx
   split at h
   ·rename_i hk
    obtain ⟨r, hr, hh⟩ := Option.map_eq_some_iff.1 h
    simp only [Prod.mk.injEq] at hh; obtain ⟨rfl, rfl⟩ := hh
    have m : x ∈ (Op.load T x).operands := by simp [Op.operands]
    exact .same rfl fun fr' τ hN => by simp [sop, hN.ev x m, hx, hk, sLoad_loc (hN.ids m hx), hr]
   ·simp at h
  ·simp at h
 ·rename_i T x y
  split at h
  ·rename_i a v hx hy
   split at h
   ·rename_i hk
    obtain ⟨r, hr, hh⟩ := Option.map_eq_some_iff.1 h
    simp only [Prod.mk.injEq] at hh; obtain ⟨rfl, rfl⟩ := hh
    have m : x ∈ (Op.store T x y).operands := by simp [Op.operands]
    obtain ⟨b, blk, ⟨g, i, p, rfl⟩, e1, e2, rfl, e3⟩ := sStore_loc hr
    refine ⟨some (b, blk), by simp [wid, hx], rfl, fun p hp => by simp only [Option.some.injEq] at hp; subst hp; exact ⟨.inl (foot_mem m hx e1), e2⟩, fun fr' τ hN ht => ?_⟩
    simp [sop, hN.ev x m, hN.ev y (by simp [Op.operands]), hx, hy, hk, e3 τ (hN.ids m hx), Store.wr]
   ·simp at h
  ·simp at h
 ·rename_i T x k
  split at h
  ·rename_i v hx
   split at h
   ·rename_i hk
    obtain ⟨r, hr, hh⟩ := Option.map_eq_some_iff.1 h
    simp only [Prod.mk.injEq] at hh; obtain ⟨rfl, rfl⟩ := hh
    have m : x ∈ (Op.fieldAddr T x k).operands := by simp [Op.operands]
    exact .same rfl fun fr' τ hN => by simp [sop, hN.ev x m, hx, hk, sFieldAddr_loc (hN.ids m hx), hr]
   ·simp at h
  ·simp at h
 ·rename_i T x k
  split at h
  ·rename_i v hx
   split at h
   ·rename_i hk
    obtain ⟨r, hr, hh⟩ := Option.map_eq_some_iff.1 h
    simp only [Prod.mk.injEq] at hh; obtain ⟨rfl, rfl⟩ := hh
    have m : x ∈ (Op.field T x k).operands := by simp [Op.operands]
    exact .same rfl fun fr' τ hN => by simp [sop, hN.ev x m, hx, hk, hr]
   ·simp at h
  ·simp at h
 ·rename_i T x i
  split at h
  ·rename_i v k n hx hi
   split at h
   ·rename_i hk
    obtain ⟨r, hr, hh⟩ := Option.map_eq_some_iff.1 h
    simp only [Prod.mk.injEq] at hh; obtain ⟨rfl, rfl⟩ := hh
    have m : x ∈ (Op.indexAddr T x i).operands := by simp [Op.operands]
    exact .same rfl fun fr' τ hN => by simp [sop, hN.ev x m, hN.ev i (by simp [Op.operands]), hx, hi, hk, sIndexAddr_loc (hN.ids m hx), hr]
   ·simp at h
  ·simp at h
 ·rename_i T x i
  split at h
  ·rename_i s k n hx hi
   split at h
   ·rename_i hk
    split at h
    ·rename_i b hb
     simp only [Option.some.injEq, Prod.mk.injEq] at h; obtain ⟨rfl, rfl⟩ := h
     exact .same rfl fun fr' τ hN => by simp [sop, hN.ev x (by simp [Op.operands]), hN.ev i (by simp [Op.operands]), hx, hi, hk, hb]
    ·simp at h
   ·simp at h
  ·rename_i t fs k n hx hi
   split at h
   ·rename_i hk
    obtain ⟨r, hr, hh⟩ := Option.map_eq_some_iff.1 h
    simp only [Prod.mk.injEq] at hh; obtain ⟨rfl, rfl⟩ := hh
    exact .same rfl fun fr' τ hN => by simp [sop, hN.ev x (by simp [Op.operands]), hN.ev i (by simp [Op.operands]), hx, hi, hk, hr]
   ·simp at h
  ·simp at h
 ·rename_i x
  split at h
  ·rename_i v hx
   split at h
   ·rename_i hk
    simp only [Option.some.injEq, Prod.mk.injEq] at h; obtain ⟨rfl, rfl⟩ := h
    have m : x ∈ (Op.nilCheck x).operands := by simp [Op.operands]
    exact .same rfl fun fr' τ hN => by simp [sop, hN.ev x m, hx, sNilCheck_loc (hN.ids m hx), hk]
   ·simp at h
  ·simp at h
 ·rename_i o T x y p
  split at h
  ·rename_i a b hx hy
   split at h
   ·rename_i hk
    obtain ⟨r, hr, hh⟩ := Option.map_eq_some_iff.1 h
    simp only [Prod.mk.injEq] at hh; obtain ⟨rfl, rfl⟩ := hh
    exact .same rfl fun fr' τ hN => by simp [sop, hN.ev x (by simp [Op.operands]), hN.ev y (by simp [Op.operands]), hx, hy, hk, hr]
   ·simp at h
  ·simp at h
 ·rename_i o p x
  split at h
  ·rename_i a hx
   obtain ⟨r, hr, hh⟩ := Option.map_eq_some_iff.1 h
   simp only [Prod.mk.injEq] at hh; obtain ⟨rfl, rfl⟩ := hh
   exact .same rfl fun fr' τ hN => by simp [sop, hN.ev x (by simp [Op.operands]), hx, hr]
  ·simp at h
 ·rename_i T U x
  split at h
  ·rename_i k n k' hx hU
   split at h
   ·rename_i hk
    simp only [Option.some.injEq, Prod.mk.injEq] at h; obtain ⟨rfl, rfl⟩ := h
    exact .same rfl fun fr' τ hN => by simp [sop, hN.ev x (by simp [Op.operands]), hx, hU, hk]
   ·simp at h
  ·rename_i ys hx hU
   split at h
   ·rename_i hk
    obtain ⟨r, hr, hh⟩ := Option.map_eq_some_iff.1 h
    simp only [Prod.mk.injEq] at hh; obtain ⟨rfl, rfl⟩ := hh
    exact .same rfl fun fr' τ hN => by simp [sop, hN.ev x (by simp [Op.operands]), hx, hU, hk, hr]
   ·simp at h
  ·rename_i b g off len hx hU
   split at h
   ·rename_i ys hys
    split at h
    ·rename_i hk
     obtain ⟨r, hr, hh⟩ := Option.map_eq_some_iff.1 h
     simp only [Prod.mk.injEq] at hh; obtain ⟨rfl, rfl⟩ := hh
     refine .same rfl fun fr' τ hN => ?_
     have mx : x ∈ (Op.convert T U x).operands := by simp [Op.operands]
     have hys' : sRow (.ref b g off len) τ = some ys := by
      rw [← hys]; exact sList_loc (x := .ref b g off len) (hN.ids mx hx)
     simp [sop, hN.ev x (by simp [Op.operands]), hx, hU, hk, hr, hys']
    ·simp at h
   ·simp at h
  ·simp at h
 ·rename_i T x lo hi mx
  have m : x ∈ (Op.slice T x lo hi mx).operands := by simp [Op.operands]
  split at h
  ·rename_i v l hh' mm hx h1 h2 h3
   split at h
   ·rename_i hk
    obtain ⟨r, hr, hh⟩ := Option.map_eq_some_iff.1 h
    simp only [Prod.mk.injEq] at hh; obtain ⟨rfl, rfl⟩ := hh
    refine .same rfl fun fr' τ hN => ?_
    have a1 : optEval fr' lo = optEval fr lo := optEval_near fun y hy => hN.ev y (by subst hy; simp [Op.operands])
    have a2 : optEval fr' hi = optEval fr hi := optEval_near fun y hy => hN.ev y (by subst hy; simp [Op.operands])
    have a3 : optEval fr' mx = optEval fr mx := optEval_near fun y hy => hN.ev y (by subst hy; simp [Op.operands])
    simp [sop, hN.ev x m, hx, a1, a2, a3, h1, h2, h3, hk, sSlice_loc (hN.ids m hx), hr]
   ·simp at h
  ·simp at h
 ·rename_i x k
  split at h
  ·rename_i vs hx
   obtain ⟨r, hr, hh⟩ := Option.map_eq_some_iff.1 h
   simp only [Prod.mk.injEq] at hh; obtain ⟨rfl, rfl⟩ := hh
   exact .same rfl fun fr' τ hN => by simp [sop, hN.ev x (by simp [Op.operands]), hx, hr]
  ·simp at h
 ·rename_i f first cap
  split at h
  ·rename_i xs ys h1 h2
   simp only [Option.some.injEq, Prod.mk.injEq] at h; obtain ⟨rfl, rfl⟩ := h
   refine .same rfl fun fr' τ hN => ?_
   have a1 : first.toList.mapM (Fr.eval fr') = first.toList.mapM (Fr.eval fr) := mapM_near _ fun y hy => hN.ev y (by simp only [Op.operands, Array.mem_append]; exact .inl (by simpa using hy))
   have a2 : cap.toList.mapM (Fr.eval fr') = cap.toList.mapM (Fr.eval fr) := mapM_near _ fun y hy => hN.ev y (by simp only [Op.operands, Array.mem_append]; exact .inr (by simpa using hy))
   simp only [sop, a1, a2, h1, h2]
  ·simp at h
 ·rename_i T parts
  split at h
  ·rename_i ps hp
   split at h
   ·rename_i hk
    obtain ⟨r, hr, hh⟩ := Option.map_eq_some_iff.1 h
    simp only [Prod.mk.injEq] at hh; obtain ⟨rfl, rfl⟩ := hh
    refine .same rfl fun fr' τ hN => ?_
    have a1 : evalParts fr' parts.toList = evalParts fr parts.toList := evalParts_near _ fun y hy => hN.ev y (by simpa [Op.operands] using hy)
    simp [sop, a1, hp, hk, hr]
   ·simp at h
  ·simp at h
 ·rename_i T len parts
  split at h
  ·rename_i ps e hp hT
   split at h
   ·rename_i hk
    obtain ⟨r, hr, hh⟩ := Option.map_eq_some_iff.1 h
    simp only [Prod.mk.injEq] at hh; obtain ⟨rfl, rfl⟩ := hh
    refine .fresh hn rfl fun fr' τ hN => ?_
    have a1 : evalParts fr' parts.toList = evalParts fr parts.toList := evalParts_near _ fun y hy => hN.ev y (by simpa [Op.operands] using hy)
    simp [sop, a1, hp, hT, hk, hr]
   ·simp at h
  ·simp at h
 ·rename_i T l c
  split at h
  ·rename_i k n k' m e hl hc hT
   split at h
   ·rename_i hk
    simp only [Option.some.injEq, Prod.mk.injEq] at h; obtain ⟨rfl, rfl⟩ := h
    exact .fresh hn rfl fun fr' τ hN => by simp [sop, hN.ev l (by simp [Op.operands]), hN.ev c (by simp [Op.operands]), hl, hc, hT, hk]
   ·simp at h
  ·simp at h
 ·rename_i T x
  split at h
  ·rename_i v hx
   split at h
   ·rename_i hk
    simp only [Option.some.injEq, Prod.mk.injEq] at h; obtain ⟨rfl, rfl⟩ := h
    exact .same rfl fun fr' τ hN => by simp [sop, hN.ev x (by simp [Op.operands]), hx, hk]
   ·simp at h
  ·simp at h
 ·rename_i T
  split at h
  ·rename_i K e hT
   split at h
   ·rename_i hk
    simp only [Option.some.injEq, Prod.mk.injEq] at h; obtain ⟨rfl, rfl⟩ := h
    exact .fresh hn rfl fun fr' τ hN => by simp [sop, hT, hk]
   ·simp at h
  ·simp at h
 ·rename_i T m x ok
  split at h
  ·rename_i mv xv hm hx
   split at h
   ·rename_i hk
    obtain ⟨r, hr, hh⟩ := Option.map_eq_some_iff.1 h
    simp only [Prod.mk.injEq] at hh; obtain ⟨rfl, rfl⟩ := hh
    have mm : m ∈ (Op.lookup T m x ok).operands := by simp [Op.operands]
    exact .same rfl fun fr' τ hN => by simp [sop, hN.ev m mm, hN.ev x (by simp [Op.operands]), hm, hx, hk, sLookup_loc (hN.ids mm hm), hr]
   ·simp at h
  ·simp at h
 ·rename_i T m x y
  split at h
  ·rename_i mv xv yv hm hx hy
   split at h
   ·rename_i hk
    obtain ⟨r, hr, hh⟩ := Option.map_eq_some_iff.1 h
    simp only [Prod.mk.injEq] at hh; obtain ⟨rfl, rfl⟩ := hh
    have mm : m ∈ (Op.mapUpdate T m x y).operands := by simp [Op.operands]
    obtain ⟨b, blk, rfl, e2, rfl, e3⟩ := sMapSet_loc hr
    refine ⟨some (b, blk), by simp [wid, hm], rfl, fun p hp => by simp only [Option.some.injEq] at hp; subst hp; exact ⟨.inl (foot_mem mm hm (by simp [idOf])), e2⟩, fun fr' τ hN ht => ?_⟩
    simp [sop, hN.ev m mm, hN.ev x (by simp [Op.operands]), hN.ev y (by simp [Op.operands]), hm, hx, hy, hk, e3 τ (hN.ids mm hm), Store.wr]
   ·simp at h
  ·simp at h
 ·rename_i c
  split at h
  ·rename_i b hc
   exact builtin_loc hc hn h
  ·simp at h
 ·simp at h
end
abbrev Tab := List (List Nat × Nat)
def Tab.pr (t : Tab) (i : Nat) : List Nat := (t.getD i ([], 0)).1
def Tab.slot (t : Tab) (i : Nat) : Nat := (t.getD i ([], 0)).2
def chkOne (ops : Array Oper) (tab : Tab) (m N i : Nat) (o : Oper) : Bool :=
 (tab.pr i).all (fun k => decide (k < i) && (o.after.any fun e => Region.binds .any e && (e.on == k || (decide (e.on < i) && (tab.pr e.on).contains k)))) &&
 (o.after.all fun e => !Region.binds .any e || decide (e.on < i)) &&
 decide (tab.slot i < ops.size) &&
 (match o.dst with | some t => decide (t < N) | none => true) &&
 (decide (i < m) || (List.range i).all fun k => (tab.pr i).contains k)
def chkTwo (ops : Array Oper) (tab : Tab) (i j : Nat) (o o' : Oper) : Bool :=
 i == j || (tab.slot i != tab.slot j &&
  (match o'.dst with | none => true | some t => o.dst != some t && (!(o.looksAt ops).contains t || (tab.pr i).contains j || (tab.pr j).contains i)))
def chkDraw (ops : Array Oper) (tab : Tab) (m N : Nat) : Bool :=
 decide (m ≤ ops.size) &&
 (List.range ops.size).all fun i => match ops[i]? with
  | none => false
  | some o => chkOne ops tab m N i o && (List.range ops.size).all fun j => match ops[j]? with
   | none => false
   | some o' => chkTwo ops tab i j o o'
structure Rec where
 v : PV
 w : Option (Nat × Blk)
 rd : List Nat
 deriving Inhabited
def clear (rd : List Nat) (w : Option Nat) (rd' : List Nat) (w' : Option Nat) : Bool :=
 (match w with | some b => !rd'.contains b && w' != some b | none => true) && (match w' with | some b => !rd.contains b | none => true)
def noConf (tab : Tab) (i : Nat) (acc : List (Nat × List Nat × Option Nat)) (rd : List Nat) (w : Option Nat) : Bool :=
 acc.all fun p => (tab.pr i).contains p.1 || clear rd w p.2.1 p.2.2
def accAdd (i : Nat) (rd : List Nat) (w : Option Nat) (acc : List (Nat × List Nat × Option Nat)) : List (Nat × List Nat × Option Nat) :=
 if rd.isEmpty && w.isNone then acc else (i, rd, w) :: acc
def RD (E : Env) (ops : Array Oper) (tab : Tab) (base : Nat) (K : Fr → Store → Prop) : Nat → List Oper → Fr → Store → List (Nat × List Nat × Option Nat) → Prop
 | _, [], fr, σ, _ => K fr σ
 | i, o :: os, fr, σ, acc =>
  match sGuard ops o fr with
  | some true => (match isCall o.op with
   | some c => (match sCallee E fr c with
    | some (g, vs) => ∃ rd v, noConf tab i acc rd none = true ∧ (∀ τ, (∀ b ∈ rd, Store.at τ b = Store.at σ b) → C E g vs τ fun re τ' => re = .ret v ∧ τ' = τ) ∧
      RD E ops tab base K (i + 1) os (Fr.put fr o.dst v) σ (accAdd i rd none acc)
    | none => False)
   | none => (match sop E o.op fr σ (base + tab.slot i) with
    | some (v, σ') => noConf tab i acc (foot o.op fr) (wid o.op fr (base + tab.slot i) v) = true ∧ RD E ops tab base K (i + 1) os (Fr.put fr o.dst v) σ' (accAdd i (foot o.op fr) (wid o.op fr (base + tab.slot i) v) acc)
    | none => False))
  | some false => RD E ops tab base K (i + 1) os (Fr.put fr o.dst (.tup [])) σ acc
  | none => False
section
variable {E : Env} {N z : Nat} {Q : Post}
def RecOK (E : Env) (N : Nat) (ops : Array Oper) (tab : Tab) (base i : Nat) (o : Oper) (r : Rec) (fr : Fr) (σ : Store) : Prop :=
 (∀ p, r.w = some p → (p.1 ∈ r.rd ∨ p.1 = base + tab.slot i)) ∧
 ∀ fr' τ, (∀ t ∈ o.looksAt ops, Fr.get fr' t = Fr.get fr t) → (∀ b ∈ r.rd, Store.at τ b = Store.at σ b) → τ.length = base + ops.size →
  ∀ (cx : Cx) (a : Act) (Q : Exit → Act → World → Prop) (M : Act → World → Prop), cx.top ≤ base → Now E cx τ → FR E cx N fr' a.tmps → ¬ cx.A (base + tab.slot i) →
   (∀ (cx' : Cx) (val : Value), V E cx' r.v val → Now E cx' (τ.wr r.w) → Step cx cx' → (∀ b, cx'.A b → cx.A b ∨ b = base + tab.slot i ∨ base + ops.size ≤ b) → M (a.put o.dst val) cx'.w) →
   if Region.wanted o (yielded ops a.tmps) then opr E.P o a cx.w M Q else M (a.put o.dst undef) cx.w
theorem guard_looks {ops : Array Oper} {o : Oper} {j : Nat} {want : Bool} {d : Tmp} (hg : o.guard = some (j, want)) (hd : (ops[j]?).bind (·.dst) = some d) : d ∈ o.looksAt ops := by
 simp [Oper.looksAt, hg, hd]
theorem sGuard_looks {ops : Array Oper} {o : Oper} {fr fr' : Fr} (h : ∀ t ∈ o.looksAt ops, Fr.get fr' t = Fr.get fr t) : sGuard ops o fr' = sGuard ops o fr := by
 unfold sGuard
 split
 ·rfl
 ·rename_i j want hg
  split
  ·rename_i d hd; rw [h d (guard_looks hg hd)]
  ·rfl
theorem eval_looks {ops : Array Oper} {o : Oper} {fr fr' : Fr} (h : ∀ t ∈ o.looksAt ops, Fr.get fr' t = Fr.get fr t) {x : Operand} (hx : x ∈ o.op.operands) : Fr.eval fr' x = Fr.eval fr x := by
 cases x with
 | tmp t => exact h t (List.mem_append_left _ (List.mem_filterMap.2 ⟨.tmp t, by simpa using hx, rfl⟩))
 | const v => rfl
 | func f => rfl
 | global g => rfl
theorem RecOK_skip {ops : Array Oper} {tab : Tab} {base i : Nat} {o : Oper} {fr : Fr} {σ : Store} (hg : sGuard ops o fr = some false) : RecOK E N ops tab base i o ⟨.tup [], none, []⟩ fr σ :=
 ⟨by simp, fun fr' τ h1 h2 hl cx a Q M ht hn hf hA hM => by
  rw [wanted_of_guard hf ((sGuard_looks h1).trans hg)]
  simp only [Bool.false_eq_true, if_false]
  exact hM cx undef V_skip hn (Step.refl cx) fun b hb => .inl hb⟩
theorem RecOK_op (O : E.OK) {ops : Array Oper} {tab : Tab} {base i : Nat} {o : Oper} {fr : Fr} {σ σ' : Store} {v : PV} (hg : sGuard ops o fr = some true) (hs : sop E o.op fr σ (base + tab.slot i) = some (v, σ'))
  (hl : σ.length = base + ops.size) (hi : tab.slot i < ops.size) : ∃ w : Option (Nat × Blk), w.map (·.1) = wid o.op fr (base + tab.slot i) v ∧ σ' = σ.wr w ∧ RecOK E N ops tab base i o ⟨v, w, foot o.op fr⟩ fr σ := by
 obtain ⟨w, e0, e1, e2, e3⟩ := sop_loc hs (by omega)
 refine ⟨w, e0, e1, fun p hp => (e2 p hp).1, fun fr' τ h1 h2 hl' cx a Q M ht hn hf hA hM => ?_⟩
 rw [wanted_of_guard hf ((sGuard_looks h1).trans hg)]
 simp only [if_true]
 have hY := sop_ok O (e3 fr' τ ⟨fun x hx => eval_looks h1 hx, h2⟩ (by omega))
 obtain ⟨n, val, w', cx', k1, k2, rfl, k4, k5, k6, k7⟩ := hY cx a.eval hn hf.ev hA (by omega)
 exact opr_value k1 k2 (hM cx' val k5 k4 k6 fun b hb => (k7 b hb).imp id .inl)
theorem isCall_some {op : Op} {c : Call} (hc : isCall op = some c) : op = .call c := by
 unfold isCall at hc
 split at hc
 ·split at hc
  ·simp at hc
  ·simp only [Option.some.injEq] at hc; subst hc; rfl
 ·simp at hc
theorem sCallee_some {fr : Fr} {c : Call} {g : FuncId} {vs : List PV} (hcal : sCallee E fr c = some (g, vs)) :
  ∃ f xs ys ws, c.callee = .value f ∧ Fr.eval fr f = some (.fn (.func g) xs ys) ∧ c.args.toList.mapM (Fr.eval fr) = some ws ∧ E.fk g = true ∧ vs = xs ++ ws ++ ys := by
 unfold sCallee at hcal
 split at hcal
 ·rename_i f hf
  split at hcal
  ·rename_i g' xs ys ws h1 h2
   split at hcal
   ·rename_i hk
    simp only [Option.some.injEq, Prod.mk.injEq] at hcal; obtain ⟨rfl, rfl⟩ := hcal
    exact ⟨f, xs, ys, ws, hf, h1, h2, hk, rfl⟩
   ·simp at hcal
  ·simp at hcal
 ·simp at hcal
theorem RecOK_call (O : E.OK) {ops : Array Oper} {tab : Tab} {base i : Nat} {o : Oper} {fr : Fr} {σ : Store} {v : PV} {c : Call} {g : FuncId} {vs : List PV} {rd : List Nat} (hg : sGuard ops o fr = some true) (hc : isCall o.op = some c) (hcal : sCallee E fr c = some (g, vs))
  (h : ∀ τ, (∀ b ∈ rd, Store.at τ b = Store.at σ b) → C E g vs τ fun re τ' => re = .ret v ∧ τ' = τ) : RecOK E N ops tab base i o ⟨v, none, rd⟩ fr σ := by
 refine ⟨by simp, fun fr' τ h1 h2 hl' cx a Q M ht hn hf hA hM => ?_⟩
 rw [wanted_of_guard hf ((sGuard_looks h1).trans hg)]
 simp only [if_true]
 have ho := isCall_some hc
 obtain ⟨f, xs, ys, ws, c1, c2, c3, c4, rfl⟩ := sCallee_some hcal
 have hop : ∀ x ∈ o.op.operands, Fr.eval fr' x = Fr.eval fr x := fun x hx => eval_looks h1 hx
 have d1 : Fr.eval fr' f = some (.fn (.func g) xs ys) := by rw [hop f (by simp [ho, Op.operands, Call.operands, c1])]; exact c2
 have d2 : c.args.toList.mapM (Fr.eval fr') = some ws := by rw [mapM_near _ fun y hy => hop y (by simp [ho, Op.operands, Call.operands, Array.mem_toList_iff.1 hy])]; exact c3
 obtain ⟨us, us', k1, k2, k3⟩ := (hf.ev f _ d1).fn_inv
 have k4 := VL_map hf.ev d2
 have hrun : (execOp a.eval o).run E.P cx.w = .ok (.enter g (us ++ c.args.map a.eval ++ us')) cx.w := by
  simp [execOp, ho, resolve, c1, k1, Deferred.ofValue, invoke, run_callFunc O c4]
 have hvl : VL E cx (xs ++ ws ++ ys) (us ++ c.args.map a.eval ++ us').toList := by simpa using (k2.app k4).app k3
 refine opr_enter hrun ((h τ h2 (cx.label (base + ops.size)) _ (hn.label (by omega)) (hvl.ext (Ext.label _ _))).mono ?_)
 rintro e w' ⟨re, σ', cx', rfl, ⟨rfl, rfl⟩, h4, h5, h6⟩
 cases e <;> simp only [ReOK] at h4
 have hn' : Now E (cx'.label cx.top) σ' := h5.label (by have := hn.top; omega)
 exact hM (cx'.label cx.top) _ (h4.ext (Ext.label _ _)) hn' (h6.relabel (by omega)) fun b hb => (h6.new b hb).imp id .inr
end
def dstOf (ops : Array Oper) (j : Nat) : Option Tmp := (ops[j]?).bind (·.dst)
def frM (ops : Array Oper) (rs : List Rec) (L : Nat → Bool) (fr : Fr) : Nat → Fr
 | 0 => fr
 | k + 1 => if L k then Fr.put (frM ops rs L fr k) (dstOf ops k) (rs.getD k default).v else frM ops rs L fr k
def stM (rs : List Rec) (L : Nat → Bool) (σ : Store) : Nat → Store
 | 0 => σ
 | k + 1 => if L k then (stM rs L σ k).wr (rs.getD k default).w else stM rs L σ k
def allT : Nat → Bool := fun _ => true
section
variable {E : Env} {N z : Nat} {Q : Post} {ops : Array Oper} {tab : Tab} {base m : Nat}
theorem frM_congr {rs rs' : List Rec} {L L' : Nat → Bool} {fr : Fr} : ∀ n, (∀ k < n, rs.getD k default = rs'.getD k default) → (∀ k < n, L k = L' k) → frM ops rs L fr n = frM ops rs' L' fr n
 | 0, _, _ => rfl
 | n + 1, h, k => by simp only [frM]; rw [frM_congr n (fun i hi => h i (by omega)) (fun i hi => k i (by omega)), h n (by omega), k n (by omega)]
theorem stM_congr {rs rs' : List Rec} {L L' : Nat → Bool} {σ : Store} : ∀ n, (∀ k < n, rs.getD k default = rs'.getD k default) → (∀ k < n, L k = L' k) → stM rs L σ n = stM rs' L' σ n
 | 0, _, _ => rfl
 | n + 1, h, k => by simp only [stM]; rw [stM_congr n (fun i hi => h i (by omega)) (fun i hi => k i (by omega)), h n (by omega), k n (by omega)]
theorem wr_len (σ : Store) (w : Option (Nat × Blk)) : (σ.wr w).length = σ.length := by cases w <;> simp [Store.wr]
theorem stM_len (rs : List Rec) (L : Nat → Bool) (σ : Store) : ∀ n, (stM rs L σ n).length = σ.length
 | 0 => rfl
 | n + 1 => by simp only [stM]; split <;> simp [wr_len, stM_len rs L σ n]
structure Trace (E : Env) (N : Nat) (ops : Array Oper) (tab : Tab) (base : Nat) (fr : Fr) (σ : Store) (rs : List Rec) : Prop where
 ok : ∀ i, i < rs.length → ∃ o, ops[i]? = some o ∧ RecOK E N ops tab base i o (rs.getD i default) (frM ops rs allT fr i) (stM rs allT σ i)
 conf : ∀ i j, j < i → i < rs.length → j ∈ tab.pr i ∨ clear (rs.getD i default).rd ((rs.getD i default).w.map (·.1)) (rs.getD j default).rd ((rs.getD j default).w.map (·.1)) = true
theorem getD_snoc_lt {rs : List Rec} {r : Rec} {k : Nat} (h : k < rs.length) : (rs ++ [r]).getD k default = rs.getD k default := by simp [List.getElem?_append_left h]
theorem getD_snoc (rs : List Rec) (r : Rec) : (rs ++ [r]).getD rs.length default = r := by simp
theorem Trace.snoc {fr : Fr} {σ : Store} {rs : List Rec} (t : Trace E N ops tab base fr σ rs) {o : Oper} {r : Rec} (ho : ops[rs.length]? = some o) (h : RecOK E N ops tab base rs.length o r (frM ops rs allT fr rs.length) (stM rs allT σ rs.length))
  (hc : ∀ j, j < rs.length → j ∈ tab.pr rs.length ∨ clear r.rd (r.w.map (·.1)) (rs.getD j default).rd ((rs.getD j default).w.map (·.1)) = true) : Trace E N ops tab base fr σ (rs ++ [r]) := by
 have hf : ∀ n, n ≤ rs.length → frM ops (rs ++ [r]) allT fr n = frM ops rs allT fr n := fun n hn => frM_congr n (fun k hk => getD_snoc_lt (by omega)) fun _ _ => rfl
 have hs : ∀ n, n ≤ rs.length → stM (rs ++ [r]) allT σ n = stM rs allT σ n := fun n hn => stM_congr n (fun k hk => getD_snoc_lt (by omega)) fun _ _ => rfl
 refine ⟨fun i hi => ?_, fun i j hji hi => ?_⟩
 ·simp only [List.length_append, List.length_singleton] at hi
  rcases Nat.lt_or_ge i rs.length with h1 | h1
  ·rw [hf i (by omega), hs i (by omega), getD_snoc_lt h1]; exact t.ok i h1
  ·have : i = rs.length := by omega
   subst this
   rw [hf _ (Nat.le_refl _), hs _ (Nat.le_refl _), getD_snoc]; exact ⟨o, ho, h⟩
 ·simp only [List.length_append, List.length_singleton] at hi
  rcases Nat.lt_or_ge i rs.length with h1 | h1
  ·rw [getD_snoc_lt h1, getD_snoc_lt (by omega)]; exact t.conf i j hji h1
  ·have : i = rs.length := by omega
   subst this
   rw [getD_snoc, getD_snoc_lt hji]; exact hc j hji
theorem frM_snoc {fr : Fr} {rs : List Rec} {r : Rec} {o : Oper} (ho : ops[rs.length]? = some o) : frM ops (rs ++ [r]) allT fr (rs.length + 1) = Fr.put (frM ops rs allT fr rs.length) o.dst r.v := by
 simp only [frM]
 rw [frM_congr rs.length (fun k hk => getD_snoc_lt (r := r) hk) (fun _ _ => rfl), getD_snoc, dstOf, ho]; rfl
theorem stM_snoc {σ : Store} {rs : List Rec} {r : Rec} : stM (rs ++ [r]) allT σ (rs.length + 1) = (stM rs allT σ rs.length).wr r.w := by
 simp only [stM]
 rw [stM_congr rs.length (fun k hk => getD_snoc_lt (r := r) hk) (fun _ _ => rfl), getD_snoc]; rfl
theorem RD_trace (O : E.OK) (hsl : ∀ i, i < ops.size → tab.slot i < ops.size) {fr : Fr} {σ : Store} (hσ : σ.length = base + ops.size) {K : Fr → Store → Prop} : ∀ (os : List Oper) (rs : List Rec) (acc : List (Nat × List Nat × Option Nat)),
  Trace E N ops tab base fr σ rs → (∀ k o, os[k]? = some o → ops[rs.length + k]? = some o) →
  (∀ j, j < rs.length → ((rs.getD j default).rd = [] ∧ (rs.getD j default).w = none) ∨ (j, (rs.getD j default).rd, (rs.getD j default).w.map (·.1)) ∈ acc) →
  RD E ops tab base K rs.length os (frM ops rs allT fr rs.length) (stM rs allT σ rs.length) acc →
  ∃ rs', rs'.length = rs.length + os.length ∧ Trace E N ops tab base fr σ rs' ∧ K (frM ops rs' allT fr rs'.length) (stM rs' allT σ rs'.length)
 | [], rs, acc, t, ho, ha, h => ⟨rs, rfl, t, h⟩
 | o :: os, rs, acc, t, ho, ha, h => by
  have ho0 : ops[rs.length]? = some o := ho 0 o rfl
  have hlt : rs.length < ops.size := by
   rcases Nat.lt_or_ge rs.length ops.size with h | h
   ·exact h
   ·simp [Array.getElem?_eq_none h] at ho0
  have go : ∀ (r : Rec) (acc' : List (Nat × List Nat × Option Nat)), RecOK E N ops tab base rs.length o r (frM ops rs allT fr rs.length) (stM rs allT σ rs.length) → noConf tab rs.length acc r.rd (r.w.map (·.1)) = true → acc' = accAdd rs.length r.rd (r.w.map (·.1)) acc →
    RD E ops tab base K (rs.length + 1) os (Fr.put (frM ops rs allT fr rs.length) o.dst r.v) ((stM rs allT σ rs.length).wr r.w) acc' →
    ∃ rs', rs'.length = rs.length + (o :: os).length ∧ Trace E N ops tab base fr σ rs' ∧ K (frM ops rs' allT fr rs'.length) (stM rs' allT σ rs'.length) := fun r acc' h1 h2 h3 h4 => by
   have t' : Trace E N ops tab base fr σ (rs ++ [r]) := t.snoc ho0 h1 fun j hj => by
    rcases ha j hj with ⟨e1, e2⟩ | hm
    ·right; rw [e1, e2]; simp only [clear, Option.map_none]; cases r.w.map (·.1) <;> simp
    ·have := List.all_eq_true.1 h2 _ hm
     simp only [Bool.or_eq_true, List.contains_iff_mem] at this
     exact this
   have hl : (rs ++ [r]).length = rs.length + 1 := by simp
   obtain ⟨rs', a1, a2, a3⟩ := RD_trace O hsl hσ os (rs ++ [r]) acc' t' (fun k o' hk => by
     rw [hl, show rs.length + 1 + k = rs.length + (k + 1) by omega]; exact ho (k + 1) o' hk) (fun j hj => by
     rw [hl] at hj
     rcases Nat.lt_or_ge j rs.length with h5 | h5
     ·rw [getD_snoc_lt h5]
      rcases ha j h5 with h6 | h6
      ·exact .inl h6
      ·right; rw [h3]; unfold accAdd; split
       ·exact h6
       ·exact List.mem_cons_of_mem _ h6
     ·have : j = rs.length := by omega
      subst this
      rw [getD_snoc, h3]; unfold accAdd; split
      ·rename_i h7
       simp only [Bool.and_eq_true, List.isEmpty_iff, Option.isNone_iff_eq_none, Option.map_eq_none_iff] at h7
       exact .inl h7
      ·exact .inr (List.mem_cons_self ..)) (by
     rw [hl, frM_snoc ho0, stM_snoc]; exact h4)
   exact ⟨rs', by rw [a1, hl]; simp only [List.length_cons]; omega, a2, a3⟩
  unfold RD at h
  split at h
  ·rename_i hg
   split at h
   ·rename_i c hc
    split at h
    ·rename_i g vs hcal
     obtain ⟨rd, v, h1, h2, h3⟩ := h
     exact go ⟨v, none, rd⟩ _ (RecOK_call O hg hc hcal h2) h1 rfl h3
    ·exact h.elim
   ·split at h
    ·rename_i v σ' hs
     obtain ⟨h1, h2⟩ := h
     obtain ⟨w, e1, e2, e3⟩ := RecOK_op (N := N) O hg hs (by rw [stM_len]; exact hσ) (hsl _ hlt)
     exact go ⟨v, w, foot o.op _⟩ _ e3 (by rw [e1]; exact h1) rfl (by rw [← e2, e1]; exact h2)
    ·exact h.elim
  ·rename_i hg
   exact go ⟨.tup [], none, []⟩ acc (RecOK_skip hg) (by
    unfold noConf clear
    rw [List.all_eq_true]; intro p hp
    cases p.2.2 <;> simp) (by simp [accAdd]) (by simpa [Store.wr] using h)
  ·exact h.elim
end
structure Chk (ops : Array Oper) (tab : Tab) (m N : Nat) : Prop where
 le : m ≤ ops.size
 one : ∀ i o, ops[i]? = some o → chkOne ops tab m N i o = true
 two : ∀ i j o o', ops[i]? = some o → ops[j]? = some o' → chkTwo ops tab i j o o' = true
theorem arr_lt {α : Type} {a : Array α} {i : Nat} {x : α} (h : a[i]? = some x) : i < a.size := by
 rcases Nat.lt_or_ge i a.size with h1 | h1
 ·exact h1
 ·simp [Array.getElem?_eq_none h1] at h
theorem Chk.of {ops : Array Oper} {tab : Tab} {m N : Nat} (h : chkDraw ops tab m N = true) : Chk ops tab m N := by
 unfold chkDraw at h
 simp only [Bool.and_eq_true, decide_eq_true_eq, List.all_eq_true, List.mem_range] at h
 obtain ⟨h1, h2⟩ := h
 refine ⟨h1, fun i o ho => ?_, fun i j o o' ho ho' => ?_⟩
 ·have := h2 i (arr_lt ho)
  rw [ho] at this
  simp only [Bool.and_eq_true] at this
  exact this.1
 ·have := h2 i (arr_lt ho)
  rw [ho] at this
  simp only [Bool.and_eq_true, List.all_eq_true, List.mem_range] at this
  have := this.2 j (arr_lt ho')
  rw [ho'] at this
  exact this
section
variable {E : Env} {N z : Nat} {Q : Post} {ops : Array Oper} {tab : Tab} {base m : Nat} {rs : List Rec} {fr : Fr} {σ : Store} {L : Nat → Bool}
theorem Chk.pr_lt (c : Chk ops tab m N) {i k : Nat} {o : Oper} (ho : ops[i]? = some o) (hk : k ∈ tab.pr i) : k < i := by
 have := c.one i o ho
 simp only [chkOne, Bool.and_eq_true, List.all_eq_true, decide_eq_true_eq] at this
 exact (this.1.1.1.1 k hk).1
theorem Chk.pr_edge (c : Chk ops tab m N) {i k : Nat} {o : Oper} (ho : ops[i]? = some o) (hk : k ∈ tab.pr i) : ∃ e ∈ o.after, Region.binds .any e = true ∧ (e.on = k ∨ (e.on < i ∧ k ∈ tab.pr e.on)) := by
 have := c.one i o ho
 simp only [chkOne, Bool.and_eq_true, List.all_eq_true, decide_eq_true_eq] at this
 have := (this.1.1.1.1 k hk).2
 simp only [← Array.any_toList, List.any_eq_true, Array.mem_toList_iff, Bool.and_eq_true, Bool.or_eq_true, beq_iff_eq, decide_eq_true_eq, List.contains_iff_mem] at this
 exact this
theorem Chk.after_lt (c : Chk ops tab m N) {i : Nat} {o : Oper} (ho : ops[i]? = some o) : ∀ e ∈ o.after, Region.binds .any e = true → e.on < i := by
 have := c.one i o ho
 simp only [chkOne, Bool.and_eq_true] at this
 have := this.1.1.1.2
 simp only [Array.all_eq_true_iff_forall_mem, Bool.or_eq_true, Bool.not_eq_true', decide_eq_true_eq] at this
 intro e he hb
 rcases this e he with h | h
 ·simp [hb] at h
 ·exact h
theorem Chk.slot (c : Chk ops tab m N) {i : Nat} {o : Oper} (ho : ops[i]? = some o) : tab.slot i < ops.size := by
 have := c.one i o ho
 simp only [chkOne, Bool.and_eq_true, decide_eq_true_eq] at this
 exact this.1.1.2
theorem Chk.dst (c : Chk ops tab m N) {i : Nat} {o : Oper} (ho : ops[i]? = some o) : ∀ t, o.dst = some t → t < N := by
 have := c.one i o ho
 simp only [chkOne, Bool.and_eq_true] at this
 intro t ht
 have := this.1.2
 rw [ht] at this; simpa using this
theorem Chk.seq (c : Chk ops tab m N) {i : Nat} {o : Oper} (ho : ops[i]? = some o) (hi : m ≤ i) : ∀ k, k < i → k ∈ tab.pr i := by
 have := c.one i o ho
 simp only [chkOne, Bool.and_eq_true, Bool.or_eq_true, decide_eq_true_eq, List.all_eq_true, List.mem_range, List.contains_iff_mem] at this
 rcases this.2 with h | h
 ·omega
 ·exact h
theorem Chk.slots (c : Chk ops tab m N) {i j : Nat} {o o' : Oper} (ho : ops[i]? = some o) (ho' : ops[j]? = some o') (hne : i ≠ j) : tab.slot i ≠ tab.slot j := by
 have := c.two i j o o' ho ho'
 simp only [chkTwo, Bool.or_eq_true, beq_iff_eq, Bool.and_eq_true, bne_iff_ne] at this
 rcases this with h | h
 ·exact absurd h hne
 ·exact h.1
theorem dstOf_some {j : Nat} {t : Tmp} (h : dstOf ops j = some t) : ∃ o, ops[j]? = some o ∧ o.dst = some t := by
 unfold dstOf at h
 cases ho : ops[j]? with
 | none => simp [ho] at h
 | some o => exact ⟨o, rfl, by simpa [ho] using h⟩
theorem Chk.dsts (c : Chk ops tab m N) {i j : Nat} {t : Tmp} (hj : dstOf ops j = some t) (hne : i ≠ j) : dstOf ops i ≠ some t := fun hi => by
 obtain ⟨o, h1, h2⟩ := dstOf_some hi
 obtain ⟨o', h3, h4⟩ := dstOf_some hj
 have := c.two i j o o' h1 h3
 simp only [chkTwo, Bool.or_eq_true, beq_iff_eq, Bool.and_eq_true, h4, bne_iff_ne] at this
 rcases this with h | h
 ·exact hne h
 ·exact h.2.1 h2
theorem Chk.looks (c : Chk ops tab m N) {i j : Nat} {t : Tmp} {o : Oper} (ho : ops[i]? = some o) (hj : dstOf ops j = some t) (hne : i ≠ j) (ht : t ∈ o.looksAt ops) : j ∈ tab.pr i ∨ i ∈ tab.pr j := by
 obtain ⟨o', h3, h4⟩ := dstOf_some hj
 have := c.two i j o o' ho h3
 simp only [chkTwo, Bool.or_eq_true, beq_iff_eq, Bool.and_eq_true, h4, Bool.not_eq_true', List.contains_iff_mem] at this
 rcases this with h | h
 ·exact absurd h hne
 ·rcases h.2.2 with (h | h) | h
  ·have := List.contains_iff_mem.2 ht
   rw [h] at this; simp at this
  ·exact .inl h
  ·exact .inr h
theorem Fr.get_put (fr : Fr) (d : Option Tmp) (v : PV) (t : Nat) : Fr.get (Fr.put fr d v) t = if d = some t then some v else Fr.get fr t := by
 cases d with
 | none => simp [Fr.put]
 | some d => simp [Fr.put, Fr.get]
theorem frM_other {t : Nat} : ∀ n, (∀ j, j < n → L j = true → dstOf ops j ≠ some t) → Fr.get (frM ops rs L fr n) t = Fr.get fr t
 | 0, _ => rfl
 | n + 1, h => by
  have ih := frM_other (t := t) n fun j hj => h j (by omega)
  simp only [frM]
  split
  ·rename_i hL
   rw [Fr.get_put, if_neg (h n (by omega) hL)]; exact ih
  ·exact ih
theorem frM_at {t j : Nat} : ∀ n, j < n → L j = true → dstOf ops j = some t → (∀ i, i ≠ j → dstOf ops i ≠ some t) → Fr.get (frM ops rs L fr n) t = some (rs.getD j default).v
 | 0, h, _, _, _ => by omega
 | n + 1, h, hL, hd, hu => by
  simp only [frM]
  by_cases e : n = j
  ·subst e
   rw [if_pos hL, Fr.get_put, if_pos hd]
  ·have ih := frM_at (t := t) (j := j) n (by omega) hL hd hu
   split
   ·rw [Fr.get_put, if_neg (hu n e)]; exact ih
   ·exact ih
theorem agreeF (c : Chk ops tab m N) {i : Nat} {o : Oper} (ho : ops[i]? = some o) (hi : L i = false) (hcl : ∀ j, L j = true → ∀ k ∈ tab.pr j, L k = true) (hpr : ∀ k ∈ tab.pr i, L k = true) {n : Nat} (hn : i < n) {t : Tmp} (ht : t ∈ o.looksAt ops) :
  Fr.get (frM ops rs L fr n) t = Fr.get (frM ops rs allT fr i) t := by
 by_cases h : ∃ j, j < n ∧ dstOf ops j = some t ∧ j ≠ i
 ·obtain ⟨j, hj, hd, hne⟩ := h
  have hu : ∀ k, k ≠ j → dstOf ops k ≠ some t := fun k hk => c.dsts hd hk
  rcases c.looks ho hd (Ne.symm hne) ht with h1 | h1
  ·rw [frM_at n hj (hpr j h1) hd hu, frM_at i (c.pr_lt ho h1) rfl hd hu]
  ·obtain ⟨o', h3, _⟩ := dstOf_some hd
   have hij := c.pr_lt h3 h1
   have hLj : ¬ L j = true := fun hL => by have := hcl j hL i h1; rw [hi] at this; simp at this
   rw [frM_other n fun k hk hL hdk => by
     by_cases e : k = j
     ·subst e; exact hLj hL
     ·exact hu k e hdk,
    frM_other i fun k hk hL hdk => hu k (by omega) hdk]
 ·rw [frM_other n fun k hk hL hdk => h ⟨k, hk, hdk, fun e => by subst e; rw [hi] at hL; simp at hL⟩,
   frM_other i fun k hk hL hdk => h ⟨k, by omega, hdk, by omega⟩]
theorem at_wr_other {σ : Store} {w : Option (Nat × Blk)} {b : Nat} (h : w.map (·.1) ≠ some b) : Store.at (σ.wr w) b = Store.at σ b := by
 cases w with
 | none => rfl
 | some p =>
  simp only [Option.map_some, ne_eq, Option.some.injEq] at h
  simp only [Store.wr, Store.at, List.getElem?_set_ne h]
theorem at_wr_congr {σ τ : Store} {w : Option (Nat × Blk)} {b : Nat} (hl : σ.length = τ.length) (h : Store.at σ b = Store.at τ b) : Store.at (σ.wr w) b = Store.at (τ.wr w) b := by
 cases w with
 | none => exact h
 | some p =>
  by_cases e : p.1 = b
  ·subst e
   simp only [Store.wr, Store.at, List.getElem?_set_self', hl]
   cases h1 : σ[p.1]? <;> cases h2 : τ[p.1]? <;> simp_all [List.getElem?_eq_none_iff]
  ·have := at_wr_other (σ := σ) (w := some p) (b := b) (by simpa using e)
   rw [this, at_wr_other (by simpa using e)]; exact h
theorem clear_w {rd rd' : List Nat} {w w' : Option Nat} (h : clear rd w rd' w' = true) : (∀ b, w = some b → b ∉ rd' ∧ w' ≠ some b) ∧ ∀ b, w' = some b → b ∉ rd := by
 unfold clear at h
 simp only [Bool.and_eq_true] at h
 refine ⟨fun b hb => ?_, fun b hb => ?_⟩
 ·subst hb; have := h.1; simpa [List.contains_iff_mem] using this
 ·subst hb; have := h.2; simpa [List.contains_iff_mem] using this
theorem agreeS (t : Trace E N ops tab base fr σ rs) {i n : Nat} (hi : L i = false) (hcl : ∀ j, L j = true → ∀ k ∈ tab.pr j, L k = true) (hin : i < n) (hn : n ≤ rs.length) (hpr : ∀ k ∈ tab.pr i, L k = true) {b : Nat} (hb : b ∈ (rs.getD i default).rd) :
  Store.at (stM rs L σ n) b = Store.at (stM rs allT σ i) b := by
 have h1 : ∀ k, k ≤ i → Store.at (stM rs L σ k) b = Store.at (stM rs allT σ k) b := by
  intro k
  induction k with
  | zero => intro _; rfl
  | succ k ih =>
   intro hk
   have ih := ih (by omega)
   simp only [stM, allT, if_true]
   split
   ·exact at_wr_congr (by rw [stM_len, stM_len]) ih
   ·rename_i hL
    rcases t.conf i k (by omega) (by omega) with h2 | h2
    ·exact absurd (hpr k h2) hL
    ·rw [ih]; exact (at_wr_other fun e => (clear_w h2).2 b e hb).symm
 have h2 : ∀ k, i ≤ k → k ≤ n → Store.at (stM rs L σ k) b = Store.at (stM rs L σ i) b := by
  intro k hik
  induction hik with
  | refl => intro _; rfl
  | step hk ih =>
   rename_i k
   intro hkn
   have ih := ih (by omega)
   simp only [stM]
   split
   ·rename_i hL
    have hne : k ≠ i := fun e => by subst e; rw [hi] at hL; simp at hL
    have hk : i ≤ k := hk
    rcases t.conf k i (by omega) (by omega) with h2 | h2
    ·have := hcl k hL i h2
     rw [hi] at this; simp at this
    ·rw [at_wr_other fun e => ((clear_w h2).1 b e).1 hb]; exact ih
   ·exact ih
 rw [h2 n (by omega) (Nat.le_refl _), h1 i (Nat.le_refl _)]
theorem wr_comm {σ : Store} {w w' : Option (Nat × Blk)} (h : ∀ b, w.map (·.1) = some b → w'.map (·.1) ≠ some b) : (σ.wr w).wr w' = (σ.wr w').wr w := by
 cases w with
 | none => rfl
 | some p =>
  cases w' with
  | none => rfl
  | some q =>
   have := h p.1 rfl
   simp only [Option.map_some, ne_eq, Option.some.injEq] at this
   simp only [Store.wr]
   exact List.set_comm _ _ fun e => this e.symm
def more (L : Nat → Bool) (i : Nat) : Nat → Bool := fun j => if j = i then true else L j
theorem stepS (t : Trace E N ops tab base fr σ rs) {i : Nat} (hi : L i = false) (hcl : ∀ j, L j = true → ∀ k ∈ tab.pr j, L k = true) : ∀ n, i < n → n ≤ rs.length → stM rs (more L i) σ n = (stM rs L σ n).wr (rs.getD i default).w
 | 0, h, _ => by omega
 | n + 1, h, hn => by
  by_cases e : n = i
  ·subst e
   simp only [stM, more, if_true, hi, Bool.false_eq_true, if_false]
   have e : stM rs (more L n) σ n = stM rs L σ n := stM_congr n (fun _ _ => rfl) fun k hk => if_neg (by omega)
   rw [e]
  ·have ih := stepS t hi hcl n (by omega) (by omega)
   simp only [stM, more, if_neg e]
   split
   ·rename_i hL
    rw [ih]
    refine (wr_comm fun b hb hb' => ?_).symm
    rcases t.conf n i (by omega) (by omega) with h2 | h2
    ·have := hcl n hL i h2
     rw [hi] at this; simp at this
    ·exact ((clear_w h2).1 b hb).2 hb'
   ·exact ih
theorem stepF (c : Chk ops tab m N) {i n : Nat} {o : Oper} (ho : ops[i]? = some o) (hi : L i = false) (hin : i < n) (t : Tmp) : Fr.get (frM ops rs (more L i) fr n) t = Fr.get (Fr.put (frM ops rs L fr n) o.dst (rs.getD i default).v) t := by
 have hdo : dstOf ops i = o.dst := by simp [dstOf, ho]
 rw [Fr.get_put]
 split
 ·rename_i hd
  have hd' : dstOf ops i = some t := hdo.trans hd
  exact frM_at n hin (by simp [more]) hd' fun k hk => c.dsts hd' hk
 ·rename_i hd
  have : ∀ k, Fr.get (frM ops rs (more L i) fr k) t = Fr.get (frM ops rs L fr k) t := by
   intro k
   induction k with
   | zero => rfl
   | succ k ih =>
    simp only [frM]
    by_cases e : k = i
    ·subst e
     rw [if_pos (show more L k k = true by simp [more]), if_neg (show ¬ L k = true by simp [hi]), Fr.get_put, if_neg]
     ·exact ih
     ·intro h1; exact hd (hdo ▸ h1)
    ·rw [show more L i k = L k by simp [more, e]]
     split
     ·rw [Fr.get_put, Fr.get_put, ih]
     ·exact ih
  exact this n
theorem FR.congr {cx : Cx} {fr fr' : Fr} {tmps : Array Value} (h : FR E cx N fr tmps) (e : ∀ t, Fr.get fr' t = Fr.get fr t) : FR E cx N fr' tmps := ⟨h.1, fun t x ht => h.2 t x (e t ▸ ht)⟩
def lefts (n : Nat) (L : Nat → Bool) : Nat := (List.range n).countP fun j => !L j
theorem lefts_list {i : Nat} (hi : L i = false) : ∀ l : List Nat, i ∈ l → (l.countP fun j => !more L i j) < l.countP fun j => !L j
 | [], h => by simp at h
 | x :: l, h => by
  have mono : (l.countP fun j => !more L i j) ≤ l.countP fun j => !L j := List.countP_mono_left fun x _ hx => by
   simp only [more, Bool.not_eq_true'] at hx ⊢
   split at hx
   ·simp at hx
   ·exact hx
  rw [List.countP_cons, List.countP_cons]
  by_cases e : x = i
  ·subst e
   have e1 : more L x x = true := by simp [more]
   rw [e1, hi]
   simp only [Bool.not_true, Bool.false_eq_true, if_false, Bool.not_false, if_true]
   omega
  ·have ih := lefts_list hi l (by
    rcases List.mem_cons.1 h with h | h
    ·exact absurd h.symm e
    ·exact h)
   have : more L i x = L x := by simp [more, e]
   rw [this]; omega
theorem lefts_lt {i n : Nat} (hi : L i = false) (hn : i < n) : lefts n (more L i) < lefts n L := lefts_list hi _ (by simpa using hn)
theorem lefts_zero {n : Nat} (h : lefts n L = 0) : ∀ j, j < n → L j = true := fun j hj => by
 have := List.countP_eq_zero.1 h j (by simpa using hj)
 simpa using this
def LS (listed : Array Bool) : Nat → Bool := fun j => listed.getD j false
theorem LS_set {listed : Array Bool} {i : Nat} (hi : i < listed.size) : LS (listed.setIfInBounds i true) = more (LS listed) i := by
 funext j
 unfold LS more
 by_cases e : j = i
 ·subst e; simp [Array.getD, hi]
 ·rw [if_neg e]; exact getD_set_ne false (Ne.symm e)
theorem LS_getD {listed : Array Bool} {j : Nat} (hj : j < listed.size) (d : Bool) : listed.getD j d = LS listed j := by simp [LS, Array.getD, hj]
theorem ready_iff {listed : Array Bool} (hsz : listed.size = ops.size) {j : Nat} : j ∈ Region.ready .any ops listed ↔ LS listed j = false ∧ ∃ o, ops[j]? = some o ∧ ∀ e ∈ o.after, Region.binds .any e = true → LS listed e.on = true := by
 rw [mem_ready]
 constructor
 ·rintro ⟨h1, o, h2, h3⟩
  exact ⟨(LS_getD (by rw [hsz]; exact arr_lt h2) true) ▸ h1, o, h2, h3⟩
 ·rintro ⟨h1, o, h2, h3⟩
  exact ⟨(LS_getD (by rw [hsz]; exact arr_lt h2) true).symm ▸ h1, o, h2, h3⟩
theorem Chk.ready_nil (c : Chk ops tab m N) {listed : Array Bool} (hsz : listed.size = ops.size) (h : Region.ready .any ops listed = []) : ∀ j, j < ops.size → LS listed j = true := by
 intro j
 induction j using Nat.strongRecOn with
 | ind j ih =>
  intro hj
  cases hL : LS listed j with
  | true => rfl
  | false =>
   obtain ⟨o, ho⟩ : ∃ o, ops[j]? = some o := ⟨ops[j], by simp [hj]⟩
   have : j ∈ Region.ready .any ops listed := (ready_iff hsz).2 ⟨hL, o, ho, fun e he hb => ih e.on (c.after_lt ho e he hb) (by have := c.after_lt ho e he hb; omega)⟩
   rw [h] at this; simp at this
theorem Chk.ready_pr (c : Chk ops tab m N) {listed : Array Bool} (hsz : listed.size = ops.size) (hcl : ∀ j, LS listed j = true → ∀ k ∈ tab.pr j, LS listed k = true) {i : Nat} (h : i ∈ Region.ready .any ops listed) : ∀ k ∈ tab.pr i, LS listed k = true := by
 obtain ⟨h1, o, ho, h2⟩ := (ready_iff hsz).1 h
 intro k hk
 obtain ⟨e, he, hb, h3⟩ := c.pr_edge ho hk
 rcases h3 with rfl | ⟨h3, h4⟩
 ·exact h2 e he hb
 ·exact hcl e.on (h2 e he hb) k h4
theorem any_seq (c : Chk ops tab m N) {ds : List Deferred} {cx0 : Cx} : ∀ (fuel : Nat) (listed : Array Bool) (j : Nat) (fr : Fr) (σ : Store) (cx : Cx) (a : Act), listed.size = ops.size → m ≤ j → (∀ i, i < ops.size → (LS listed i = true ↔ i < j)) →
  lefts ops.size (LS listed) ≤ fuel → ROps E N z ops Q (Q .normal) (ops.toList.drop j) fr σ → cx.top ≤ z → Now E cx σ → FR E cx N fr a.tmps → Step (cx0.below z) cx → a.defers = ds → wpa E.P .any ops (Lift E N z ds cx0 Q) fuel listed a cx.w := by
 intro fuel
 induction fuel with
 | zero =>
  intro listed j fr σ cx a hsz hmj hL hf hR ht hn hfr hs hd
  have hall := lefts_zero (Nat.le_zero.1 hf)
  have hge : ops.size ≤ j := by
   rcases Nat.lt_or_ge j ops.size with h | h
   ·have := (hL j h).1 (hall j h); omega
   ·exact h
  rw [List.drop_eq_nil_of_le (by simpa using hge)] at hR
  refine ⟨?_, .normal, fr, σ, cx, rfl, hR, trivial, hn, hfr, hd, hs⟩
  rw [List.eq_nil_iff_forall_not_mem]
  intro i hi
  obtain ⟨h1, o, ho, _⟩ := (ready_iff hsz).1 hi
  rw [hall i (arr_lt ho)] at h1; simp at h1
 | succ fuel ih =>
  intro listed j fr σ cx a hsz hmj hL hf hR ht hn hfr hs hd
  refine ⟨fun hnil => ?_, fun i hi => ?_⟩
  ·have hall := c.ready_nil hsz hnil
   have hge : ops.size ≤ j := by
    rcases Nat.lt_or_ge j ops.size with h | h
    ·have := (hL j h).1 (hall j h); omega
    ·exact h
   rw [List.drop_eq_nil_of_le (by simpa using hge)] at hR
   exact ⟨.normal, fr, σ, cx, rfl, hR, trivial, hn, hfr, hd, hs⟩
  ·obtain ⟨h1, o, ho, h2⟩ := (ready_iff hsz).1 hi
   have hlt := arr_lt ho
   have hij : j ≤ i := by
    rcases Nat.lt_or_ge i j with h | h
    ·rw [(hL i hlt).2 h] at h1; simp at h1
    ·exact h
   have hcl : ∀ j', LS listed j' = true → ∀ k ∈ tab.pr j', LS listed k = true := fun j' hj' k hk => by
    have hj'lt : j' < ops.size := by
     rcases Nat.lt_or_ge j' ops.size with h | h
     ·exact h
     ·simp [LS, Array.getD, hsz, Nat.not_lt.2 h] at hj'
    obtain ⟨o', ho'⟩ : ∃ o', ops[j']? = some o' := ⟨ops[j'], by simp [hj'lt]⟩
    have hk' := c.pr_lt ho' hk
    have := (hL j' hj'lt).1 hj'
    exact (hL k (by omega)).2 (by omega)
   have : i = j := by
    rcases Nat.eq_or_lt_of_le hij with h | h
    ·exact h.symm
    ·have := c.ready_pr hsz hcl hi j (c.seq ho (by omega) j h)
     have := (hL j (by omega)).1 this
     omega
   subst this
   rw [show ops.toList.drop i = o :: ops.toList.drop (i + 1) by
    rw [List.drop_eq_getElem_cons (by simpa using hlt)]
    have : ops.toList[i]'(by simpa using hlt) = o := by
     have := ho; simp only [Array.getElem?_eq_getElem hlt, Option.some.injEq] at this; simpa using this
    rw [this]] at hR
   obtain ⟨b, hb, hR⟩ := hR
   have hw := wanted_of_guard hfr hb
   have hmore := LS_set (listed := listed) (i := i) (by omega)
   have hL' : ∀ k, k < ops.size → (LS (listed.setIfInBounds i true) k = true ↔ k < i + 1) := fun k hk => by
    rw [hmore]; unfold more
    by_cases e : k = i
    ·subst e; simp
    ·rw [if_neg e, hL k hk]; omega
   have hfu : lefts ops.size (LS (listed.setIfInBounds i true)) ≤ fuel := by
    have := lefts_lt h1 hlt
    rw [hmore]; omega
   unfold wpo
   rw [ho]
   simp only [hw]
   cases b with
   | true =>
    simp only [if_true] at hR ⊢
    refine opr_mono ?_ ?_ (hR cx a ht hn hfr)
    ·rintro a' w' ⟨fr', σ', cx', rfl, hk, hn', hf', hd', hs'⟩
     exact ih _ (i + 1) fr' σ' cx' a' (by simpa using hsz) (by omega) hL' hfu hk (hs'.top ▸ ht) hn' hf' (hs.transB (hs'.ofBelow ht)) (hd'.trans hd)
    ·intro e a' w' hl; rw [hd] at hl; exact Lift.step hs hl
   | false =>
    simp only [Bool.false_eq_true, if_false] at hR ⊢
    have hput : FR E cx N (Fr.put fr o.dst (.tup [])) (a.put o.dst undef).tmps := hfr.put V_skip (c.dst ho)
    have hde : (a.put o.dst undef).defers = a.defers := by cases o.dst <;> rfl
    exact ih _ (i + 1) _ σ cx _ (by simpa using hsz) (by omega) hL' hfu hR ht hn hput hs (hde.trans hd)
theorem any_free (c : Chk ops tab m N) {ds : List Deferred} {cx0 : Cx} (t : Trace E N ops tab base fr σ rs) (hm : rs.length = m) (hσ : σ.length = base + ops.size)
  (hK : ROps E N z ops Q (Q .normal) (ops.toList.drop m) (frM ops rs allT fr m) (stM rs allT σ m)) : ∀ (fuel : Nat) (listed : Array Bool) (cx : Cx) (a : Act), listed.size = ops.size →
  (∀ j, LS listed j = true → j < m ∧ ∀ k ∈ tab.pr j, LS listed k = true) → lefts ops.size (LS listed) ≤ fuel → cx.top ≤ z → cx.top ≤ base → Now E cx (stM rs (LS listed) σ m) → FR E cx N (frM ops rs (LS listed) fr m) a.tmps →
  (∀ b, cx.A b → b < base ∨ (∃ i, LS listed i = true ∧ b = base + tab.slot i) ∨ base + ops.size ≤ b) → Step (cx0.below z) cx → a.defers = ds → wpa E.P .any ops (Lift E N z ds cx0 Q) fuel listed a cx.w := by
 intro fuel
 have turn : ∀ (fuel : Nat) (listed : Array Bool) (cx : Cx) (a : Act), listed.size = ops.size → (∀ j, LS listed j = true → j < m ∧ ∀ k ∈ tab.pr j, LS listed k = true) → lefts ops.size (LS listed) ≤ fuel → cx.top ≤ z →
   Now E cx (stM rs (LS listed) σ m) → FR E cx N (frM ops rs (LS listed) fr m) a.tmps → Step (cx0.below z) cx → a.defers = ds → (∀ j, j < m → LS listed j = true) → wpa E.P .any ops (Lift E N z ds cx0 Q) fuel listed a cx.w := by
  intro fuel listed cx a hsz hcl hf ht hn hfr hs hd hall
  refine any_seq c fuel listed m (frM ops rs allT fr m) (stM rs allT σ m) cx a hsz (Nat.le_refl _) (fun i hi => ⟨fun h => (hcl i h).1, hall i⟩) hf hK ht ?_ ?_ hs hd
  ·have e : stM rs allT σ m = stM rs (LS listed) σ m := stM_congr m (fun _ _ => rfl) fun k hk => (hall k hk).symm
   rw [e]; exact hn
  ·have e : frM ops rs allT fr m = frM ops rs (LS listed) fr m := frM_congr m (fun _ _ => rfl) fun k hk => (hall k hk).symm
   rw [e]; exact hfr
 induction fuel with
 | zero =>
  intro listed cx a hsz hcl hf ht htb hn hfr hA hs hd
  exact turn 0 listed cx a hsz hcl hf ht hn hfr hs hd fun j hj => lefts_zero (Nat.le_zero.1 hf) j (by have := c.le; omega)
 | succ fuel ih =>
  intro listed cx a hsz hcl hf ht htb hn hfr hA hs hd
  by_cases hall : ∀ j, j < m → LS listed j = true
  ·exact turn _ listed cx a hsz hcl hf ht hn hfr hs hd hall
  ·refine ⟨fun hnil => absurd (fun j hj => c.ready_nil hsz hnil j (by have := c.le; omega)) hall, fun i hi => ?_⟩
   obtain ⟨h1, o, ho, h2⟩ := (ready_iff hsz).1 hi
   have hlt := arr_lt ho
   have hcl' : ∀ j, LS listed j = true → ∀ k ∈ tab.pr j, LS listed k = true := fun j hj => (hcl j hj).2
   have hpr := c.ready_pr hsz hcl' hi
   have him : i < m := by
    rcases Nat.lt_or_ge i m with h | h
    ·exact h
    ·exact absurd (fun j hj => hpr j (c.seq ho h j (by omega))) hall
   obtain ⟨o', ho', hrec⟩ := t.ok i (by omega)
   rw [ho] at ho'; simp only [Option.some.injEq] at ho'; subst ho'
   have hmore := LS_set (listed := listed) (i := i) (by omega)
   have hnA : ¬ cx.A (base + tab.slot i) := fun hb => by
    rcases hA _ hb with h | ⟨k, hk, he⟩ | h
    ·omega
    ·have hne : i ≠ k := fun e => by subst e; rw [h1] at hk; simp at hk
     have hkm := (hcl k hk).1
     obtain ⟨ok, hok, _⟩ := t.ok k (by omega)
     exact c.slots ho hok hne (by omega)
    ·have := c.slot ho; omega
   have := hrec.2 (frM ops rs (LS listed) fr m) (stM rs (LS listed) σ m) (fun t' ht' => agreeF c ho h1 hcl' hpr him ht') (fun b hb => agreeS t h1 hcl' him (by omega) hpr hb) (by rw [stM_len]; exact hσ) cx a (Lift E N z ds cx0 Q)
    (wpa E.P .any ops (Lift E N z ds cx0 Q) fuel (listed.setIfInBounds i true)) htb hn hfr hnA fun cx' val hv hn' hs' hA' => by
    refine ih _ cx' _ (by simpa using hsz) (fun j hj => ?_) ?_ (hs'.top ▸ ht) (hs'.top ▸ htb) ?_ ?_ ?_ (hs.transB (hs'.ofBelow ht)) ?_
    ·rw [hmore] at hj ⊢
     unfold more at hj ⊢
     by_cases e : j = i
     ·subst e; exact ⟨him, fun k hk => by rw [if_neg (by have := c.pr_lt ho hk; omega)]; exact hpr k hk⟩
     ·rw [if_neg e] at hj
      exact ⟨(hcl j hj).1, fun k hk => by split; rfl; exact (hcl j hj).2 k hk⟩
    ·have := lefts_lt h1 hlt
     rw [hmore]; omega
    ·rw [hmore, stepS t h1 hcl' m him (by omega)]; exact hn'
    ·rw [hmore]
     exact ((hfr.step hs').put hv (c.dst ho)).congr fun t' => stepF c ho h1 him t'
    ·intro b hb
     rcases hA' b hb with h | h | h
     ·rcases hA b h with h | ⟨k, hk, he⟩ | h
      ·exact .inl h
      ·refine .inr (.inl ⟨k, ?_, he⟩); rw [hmore]; unfold more; split; rfl; exact hk
      ·exact .inr (.inr h)
     ·exact .inr (.inl ⟨i, by rw [hmore]; simp [more], h⟩)
     ·exact .inr (.inr h)
    ·have : (a.put o.dst val).defers = a.defers := by cases o.dst <;> rfl
     exact this.trans hd
   unfold wpo
   rw [ho]
   simp only
   split
   ·rename_i hw; rw [if_pos hw] at this; exact this
   ·rename_i hw; rw [if_neg hw] at this; exact this
theorem Now.pad {cx : Cx} {σ : Store} (h : Now E cx σ) (n : Nat) : Now E cx (σ ++ List.replicate n none) := by
 have hsome : ∀ (b : Nat) (blk : Blk), (σ ++ List.replicate n none)[b]? = some (some blk) → σ[b]? = some (some blk) := fun b blk hb => by
  rcases Nat.lt_or_ge b σ.length with h1 | h1
  ·rw [List.getElem?_append_left h1] at hb; exact hb
  ·rw [List.getElem?_append_right h1, List.getElem?_replicate] at hb
   split at hb <;> simp at hb
 refine ⟨by rw [List.length_append]; have := h.top; omega, fun b hb => by rw [List.length_append]; have := h.A b hb; omega, h.IF, h.imm, fun b m hb => ?_, fun b blk hb => h.live b blk (hsome b blk hb), h.inj, h.base⟩
 obtain ⟨blk, h1, h2⟩ := h.dom b m hb
 exact ⟨blk, by rw [List.getElem?_append_left (getElem?_lt h1)]; exact h1, h2⟩
theorem Now.world {cx : Cx} {σ : Store} (h : Now E cx σ) {w : World} (hw : w.heap = cx.w.heap) (ho : w.os = cx.w.os) (ht : w.tape = cx.w.tape) (hp : w.output = cx.w.output) : Now E { cx with w := w } σ ∧ Step cx { cx with w := w } := by
 have he : Ext cx { cx with w := w } := ⟨fun _ h => h, fun _ _ => by simp only [hw], fun _ h => h, fun b _ m h => ⟨m, h, Nat.le_refl _, fun _ => rfl⟩⟩
 refine ⟨⟨h.top, h.A, h.IF, fun k hk => by simp only [hw]; exact h.imm k hk, fun b m hb => ?_, h.live, h.inj, h.base⟩, ⟨he, fun _ h => h, fun _ _ => by simp only [hw], fun _ h => .inl h, fun b m h => .inr ⟨b, m, h, rfl⟩, rfl, fun _ h => .inl h, by simp only [hw]; exact Nat.le_refl _, ho, ht, hp⟩⟩
 obtain ⟨blk, h1, h2, h3, h4⟩ := h.dom b m hb
 exact ⟨blk, h1, by simp only [hw]; exact h2, h3, h4.ext he (by simp only [hw])⟩
theorem T_draw (O : E.OK) (hmix : E.P.follows .mixedOrders = true) {id : Nat} {ops : Array Oper} (tab : Tab) (m : Nat) {fr : Fr} {σ : Store} (hchk : chkDraw ops tab m N = true)
  (h : RD E ops tab σ.length (RF E ops Q (Q .normal) (ops.toList.drop m)) 0 (ops.toList.take m) fr (σ ++ List.replicate ops.size none) []) : T E N z (.region id ops true) Q fr σ := fun cx a ht hn hfr => by
 have c := Chk.of hchk
 have hσ : (σ ++ List.replicate ops.size none : Store).length = σ.length + ops.size := by simp
 obtain ⟨rs, h1, h2, h3⟩ := RD_trace (N := N) O (tab := tab) (ops := ops) (base := σ.length) (fun i hi => c.slot (o := ops[i]) (by simp [hi])) hσ (ops.toList.take m) [] [] ⟨fun i hi => by simp at hi, fun i j _ hi => by simp at hi⟩
  (fun k o hk => by
   rw [List.getElem?_take] at hk
   split at hk
   ·simpa using hk
   ·simp at hk) (fun j hj => by simp at hj) h
 have hlen : rs.length = m := by
  rw [h1, List.length_take]; have := c.le; simp; omega
 rw [hlen] at h3
 have h4 := ROps_of_RF (N := N) (z := z) O _ _ _ (fun o ho t hto => by
  obtain ⟨i, hi⟩ := List.getElem?_of_mem (List.mem_of_mem_drop ho)
  exact c.dst (i := i) (o := o) (by simpa using hi) t hto) h3
 have hw := hn.world (w := { cx.w with drawn := cx.w.drawn + 1 }) rfl rfl rfl rfl
 have hL : ∀ j, LS (Array.replicate ops.size false) j = false := fun j => by
  unfold LS
  rw [Array.getD_eq_getD_getElem?, Array.getElem?_replicate]
  split <;> rfl
 have hstM : ∀ n, stM rs (LS (Array.replicate ops.size false)) (σ ++ List.replicate ops.size none) n = σ ++ List.replicate ops.size none := fun n => by
  induction n with
  | zero => rfl
  | succ n ih => simp only [stM, hL n]; simpa using ih
 have hfrM : ∀ n, frM ops rs (LS (Array.replicate ops.size false)) fr n = fr := fun n => by
  induction n with
  | zero => rfl
  | succ n ih => simp only [frM, hL n]; simpa using ih
 refine wr_region_any hmix (any_free (cx0 := cx) c h2 hlen hσ h4 ops.size (Array.replicate ops.size false) { cx with w := { cx.w with drawn := cx.w.drawn + 1 } } a (by simp) (fun j hj => by rw [hL] at hj; simp at hj) ?_ ht hn.top ?_ ?_ (fun b hb => .inl (hn.A b hb)) (hw.2.ofBelow ht) rfl)
 ·have := List.countP_le_length (p := fun j => !LS (Array.replicate ops.size false) j) (l := List.range ops.size)
  simpa [lefts] using this
 ·rw [hstM]; exact hw.1.pad _
 ·rw [hfrM]; exact hfr.step hw.2
end
mutual
def ren (r : Nat → Nat) : PV → PV
 | .ptr b g i p => .ptr (r b) g i p
 | .ref b g o l => .ref (r b) g o l
 | .map b => .map (r b)
 | .fn f xs ys => .fn f (renL r xs) (renL r ys)
 | .iface t x => .iface t (ren r x)
 | .agg t fs => .agg t (renL r fs)
 | .tup vs => .tup (renL r vs)
 | .undef => .undef
 | .bool b => .bool b
 | .int k n => .int k n
 | .str s => .str s
 | .nilp => .nilp
 | .laddr x => .laddr (ren r x)
 | .nils => .nils
 | .lit xs => .lit xs
 | .nilm => .nilm
 | .nilf => .nilf
 | .nili => .nili
def renL (r : Nat → Nat) : List PV → List PV
 | [] => []
 | x :: xs => ren r x :: renL r xs
end
mutual
def allB (p : Nat → Bool) : PV → Bool
 | .ptr b .. => p b
 | .ref b .. => p b
 | .map b => p b
 | .laddr x => allB p x
 | .fn _ a b => allL p a && allL p b
 | .iface _ x => allB p x
 | .agg _ fs => allL p fs
 | .tup vs => allL p vs
 | _ => true
def allL (p : Nat → Bool) : List PV → Bool
 | [] => true
 | x :: xs => allB p x && allL p xs
end
def renBlk (r : Nat → Nat) : Blk → Blk
 | .cells ty g xs => .cells ty g (renL r xs)
 | .mp K es => .mp K (es.map fun p => (p.1, ren r p.2))
 | .loop l st pend n fr ps x y => .loop l st pend n (fr.map fun p => (p.1, ren r p.2)) ps x y
def allBlk (p : Nat → Bool) : Blk → Bool
 | .cells _ _ xs => allL p xs
 | .mp _ es => es.all fun q => allB p q.2
 | .loop _ _ _ _ fr _ _ _ => fr.all fun q => allB p q.2
mutual
theorem ren_pure (r : Nat → Nat) : ∀ (x : PV), pureB x = true → ren r x = x
 | .fn f a b, h => by simp only [pureB, Bool.and_eq_true] at h; simp only [ren, renL_pure r a h.1, renL_pure r b h.2]
 | .iface t x, h => by simp only [pureB] at h; simp only [ren, ren_pure r x h]
 | .agg t fs, h => by simp only [pureB] at h; simp only [ren, renL_pure r fs h]
 | .tup vs, h => by simp only [pureB] at h; simp only [ren, renL_pure r vs h]
 | .ptr .., h => by simp [pureB] at h
 | .ref .., h => by simp [pureB] at h
 | .map _, h => by simp [pureB] at h
 | .undef, _ => rfl
 | .bool b, _ => rfl
 | .int k n, _ => rfl
 | .str s, _ => rfl
 | .nilp, _ => rfl
 | .laddr x, h => by simp only [pureB] at h; simp only [ren, ren_pure r x h]
 | .nils, _ => rfl
 | .lit xs, _ => rfl
 | .nilm, _ => rfl
 | .nilf, _ => rfl
 | .nili, _ => rfl
theorem renL_pure (r : Nat → Nat) : ∀ (xs : List PV), pureL xs = true → renL r xs = xs
 | [], _ => rfl
 | x :: xs, h => by simp only [pureL, Bool.and_eq_true] at h; simp only [renL, ren_pure r x h.1, renL_pure r xs h.2]
end
mutual
theorem allB_pure (p : Nat → Bool) : ∀ (x : PV), pureB x = true → allB p x = true
 | .fn f a b, h => by simp only [pureB, Bool.and_eq_true] at h; simp only [allB, allL_pure p a h.1, allL_pure p b h.2, Bool.and_true]
 | .iface t x, h => by simp only [pureB] at h; simp only [allB, allB_pure p x h]
 | .agg t fs, h => by simp only [pureB] at h; simp only [allB, allL_pure p fs h]
 | .tup vs, h => by simp only [pureB] at h; simp only [allB, allL_pure p vs h]
 | .ptr .., h => by simp [pureB] at h
 | .ref .., h => by simp [pureB] at h
 | .map _, h => by simp [pureB] at h
 | .undef, _ => rfl
 | .bool b, _ => rfl
 | .int k n, _ => rfl
 | .str s, _ => rfl
 | .nilp, _ => rfl
 | .laddr x, h => by simp only [pureB] at h; simp only [allB, allB_pure p x h]
 | .nils, _ => rfl
 | .lit xs, _ => rfl
 | .nilm, _ => rfl
 | .nilf, _ => rfl
 | .nili, _ => rfl
theorem allL_pure (p : Nat → Bool) : ∀ (xs : List PV), pureL xs = true → allL p xs = true
 | [], _ => rfl
 | x :: xs, h => by simp only [pureL, Bool.and_eq_true] at h; simp only [allL, allB_pure p x h.1, allL_pure p xs h.2, Bool.and_true]
end
mutual
theorem ren_ren {r s : Nat → Nat} {p : Nat → Bool} (hp : ∀ b, p b = true → s (r b) = b) : ∀ (x : PV), allB p x = true → ren s (ren r x) = x
 | .fn f a b, h => by simp only [allB, Bool.and_eq_true] at h; simp only [ren, renL_renL hp a h.1, renL_renL hp b h.2]
 | .iface t x, h => by simp only [allB] at h; simp only [ren, ren_ren hp x h]
 | .agg t fs, h => by simp only [allB] at h; simp only [ren, renL_renL hp fs h]
 | .tup vs, h => by simp only [allB] at h; simp only [ren, renL_renL hp vs h]
 | .ptr .., h => by simp only [allB] at h; simp only [ren, hp _ h]
 | .ref .., h => by simp only [allB] at h; simp only [ren, hp _ h]
 | .map _, h => by simp only [allB] at h; simp only [ren, hp _ h]
 | .undef, _ => rfl
 | .bool b, _ => rfl
 | .int k n, _ => rfl
 | .str s, _ => rfl
 | .nilp, _ => rfl
 | .laddr x, h => by simp only [allB] at h; simp only [ren, ren_ren hp x h]
 | .nils, _ => rfl
 | .lit xs, _ => rfl
 | .nilm, _ => rfl
 | .nilf, _ => rfl
 | .nili, _ => rfl
theorem renL_renL {r s : Nat → Nat} {p : Nat → Bool} (hp : ∀ b, p b = true → s (r b) = b) : ∀ (xs : List PV), allL p xs = true → renL s (renL r xs) = xs
 | [], _ => rfl
 | x :: xs, h => by simp only [allL, Bool.and_eq_true] at h; simp only [renL, ren_ren hp x h.1, renL_renL hp xs h.2]
end
mutual
theorem allB_ren {r : Nat → Nat} {p q : Nat → Bool} (hp : ∀ b, p b = true → q (r b) = true) : ∀ (x : PV), allB p x = true → allB q (ren r x) = true
 | .fn f a b, h => by simp only [allB, Bool.and_eq_true] at h; simp only [ren, allB, allL_renL hp a h.1, allL_renL hp b h.2, Bool.and_true]
 | .iface t x, h => by simp only [allB] at h; simp only [ren, allB, allB_ren hp x h]
 | .agg t fs, h => by simp only [allB] at h; simp only [ren, allB, allL_renL hp fs h]
 | .tup vs, h => by simp only [allB] at h; simp only [ren, allB, allL_renL hp vs h]
 | .ptr .., h => by simp only [allB] at h; simp only [ren, allB, hp _ h]
 | .ref .., h => by simp only [allB] at h; simp only [ren, allB, hp _ h]
 | .map _, h => by simp only [allB] at h; simp only [ren, allB, hp _ h]
 | .undef, _ => rfl
 | .bool b, _ => rfl
 | .int k n, _ => rfl
 | .str s, _ => rfl
 | .nilp, _ => rfl
 | .laddr x, h => by simp only [allB] at h; simp only [ren, allB, allB_ren hp x h]
 | .nils, _ => rfl
 | .lit xs, _ => rfl
 | .nilm, _ => rfl
 | .nilf, _ => rfl
 | .nili, _ => rfl
theorem allL_renL {r : Nat → Nat} {p q : Nat → Bool} (hp : ∀ b, p b = true → q (r b) = true) : ∀ (xs : List PV), allL p xs = true → allL q (renL r xs) = true
 | [], _ => rfl
 | x :: xs, h => by simp only [allL, Bool.and_eq_true] at h; simp only [renL, allL, allB_ren hp x h.1, allL_renL hp xs h.2, Bool.and_true]
end
theorem fits_ren (E : Env) (r : Nat → Nat) (T : TypeId) (x : PV) : fits E T (ren r x) = fits E T x := by cases x <;> rfl
theorem renL_length (r : Nat → Nat) : ∀ xs : List PV, (renL r xs).length = xs.length
 | [] => rfl
 | x :: xs => by simp [renL, renL_length r xs]
mutual
theorem ren_id : ∀ x : PV, ren (fun b => b) x = x
 | .fn f a b => by simp only [ren, renL_id]
 | .iface t x => by simp only [ren, ren_id x]
 | .agg t fs => by simp only [ren, renL_id]
 | .tup vs => by simp only [ren, renL_id]
 | .laddr x => by simp only [ren, ren_id x]
 | .ptr .. => rfl
 | .ref .. => rfl
 | .map _ => rfl
 | .undef => rfl
 | .bool b => rfl
 | .int k n => rfl
 | .str s => rfl
 | .nilp => rfl
 | .nils => rfl
 | .lit xs => rfl
 | .nilm => rfl
 | .nilf => rfl
 | .nili => rfl
theorem renL_id : ∀ xs : List PV, renL (fun b => b) xs = xs
 | [] => rfl
 | x :: xs => by simp only [renL, ren_id x, renL_id xs]
end
structure Moves (c c' : Cx) (r : Nat → Nat) (p : Nat → Bool) : Prop where
 I : ∀ k, c.I k → c'.I k
 keeps : ∀ k, c.I k → c'.w.heap[k]? = c.w.heap[k]?
 A : ∀ b, p b = true → c.A b → c'.A (r b)
 mu : ∀ b, p b = true → c.A b → ∀ m, c'.mu (r b) = some m → c.mu b = some m
mutual
theorem VC.ren {E : Env} {c c' : Cx} {r : Nat → Nat} {p : Nat → Bool} {x : PV} {cs : List Value} (h : VC E c x cs) (hp : allB p x = true) (e : Moves c c' r p) : VC E c' (Proofs.YtdplbgfokoajjaaGreat.ren r x) cs :=
 match h with
 | .bool b => .bool b
 | .int k n => .int k n
 | .str s => .str s
 | .nilp => .nilp
 | .ptr b g i q v h1 hb hle h => .ptr (r b) g i q v h1 (e.A b hp hb) (fun m' hm => hle m' (e.mu b hp hb m' hm)) fun m' hm hg => h m' (e.mu b hp hb m' hm) hg
 | .laddr x k o cs ca t fz hIk hwk hx hwin => .laddr _ k o cs ca t fz (e.I _ hIk) ((e.keeps _ hIk).trans hwk) (hx.ren (by simpa [allB] using hp) e) hwin
 | .nils a => .nils a
 | .lit0 a n => .lit0 a n
 | .lit xs T k o cap cs ca t fz hIk hwk hx hwin hcap => .lit xs T k o cap cs ca t fz (e.I _ hIk) ((e.keeps _ hIk).trans hwk) (hx.ext ⟨e.I, e.keeps, fun _ h => h.elim, fun _ h => h.elim⟩) hwin hcap
 | .ref b g i q v h1 hb hle h => .ref (r b) g i q v h1 (e.A b hp hb) (fun m' hm => hle m' (e.mu b hp hb m' hm)) fun m' hm hg => h m' (e.mu b hp hb m' hm) hg
 | .nilm => .nilm
 | .map b v h1 hb h => .map (r b) v h1 (e.A b hp hb) fun m' hm hg => h m' (e.mu b hp hb m' hm) hg
 | .nilf => .nilf
 | .fn f first cap vs us h1 h2 => by
  simp only [allB, Bool.and_eq_true] at hp
  exact .fn f _ _ vs us (h1.ren hp.1 e) (h2.ren hp.2 e)
 | .nili => .nili
 | .ifaceA t u fs cs h => .ifaceA t u _ cs (h.ren (by simpa [allB] using hp) e)
 | .ifaceS t x v h1 h => .ifaceS t _ v h1 (h.ren (by simpa [allB] using hp) e)
 | .agg t fs cs h => .agg t _ cs (h.ren (by simpa [allB] using hp) e)
theorem VCs.ren {E : Env} {c c' : Cx} {r : Nat → Nat} {p : Nat → Bool} {Ts : List TypeId} {xs : List PV} {cs : List Value} (h : VCs E c Ts xs cs) (hp : allL p xs = true) (e : Moves c c' r p) : VCs E c' Ts (renL r xs) cs :=
 match h with
 | .nil => .nil
 | .cons (x := x) hf h hs => by
  simp only [allL, Bool.and_eq_true] at hp
  exact .cons ((fits_ren E r _ x).trans hf) (h.ren hp.1 e) (hs.ren hp.2 e)
theorem VL.ren {E : Env} {c c' : Cx} {r : Nat → Nat} {p : Nat → Bool} {xs : List PV} {vs : List Value} (h : VL E c xs vs) (hp : allL p xs = true) (e : Moves c c' r p) : VL E c' (renL r xs) vs :=
 match h with
 | .nil => .nil
 | .undef hs => by
  simp only [allL, Bool.and_eq_true] at hp
  exact .undef (hs.ren hp.2 e)
 | .one (x := x) h1 hn h hs => by
  simp only [allL, Bool.and_eq_true] at hp
  exact .one h1 (fun t fs he => by cases x <;> simp [Proofs.YtdplbgfokoajjaaGreat.ren] at he; exact hn _ _ rfl) (h.ren hp.1 e) (hs.ren hp.2 e)
 | .agg h hs => by
  simp only [allL, Bool.and_eq_true] at hp
  exact .agg (h.ren hp.1 e) (hs.ren hp.2 e)
 | .tup h hs => by
  simp only [allL, allB, Bool.and_eq_true] at hp
  exact .tup (h.ren hp.1 e) (hs.ren hp.2 e)
end
theorem renL_replicate (r : Nat → Nat) (xs : List PV) (ty : TypeId) : List.replicate (renL r xs).length ty = List.replicate xs.length ty := by rw [renL_length]
theorem ML.ren {E : Env} {c c' : Cx} {r : Nat → Nat} {p : Nat → Bool} {es : List (Lit × PV)} {ds : List (Lit × DataW Value)} (h : ML E c es ds) (hp : (es.all fun q => allB p q.2) = true) (e : Moves c c' r p) : ML E c' (es.map fun q => (q.1, Proofs.YtdplbgfokoajjaaGreat.ren r q.2)) ds := by
 induction h with
 | nil => exact .nil
 | cons h hs ih =>
  simp only [List.all_cons, Bool.and_eq_true] at hp
  exact .cons (VL.ren (xs := [_]) h (by simp [allL, hp.1]) e) (ih hp.2)
theorem BlkOK.ren {E : Env} {c c' : Cx} {r : Nat → Nat} {p : Nat → Bool} {m : MB} {blk : Blk} (h : BlkOK E c m blk) (hp : allBlk p blk = true) (e : Moves c c' r p) (hw : c'.w.heap[m.blk]? = c.w.heap[m.blk]?) : BlkOK E c' m (renBlk r blk) := by
 cases blk with
 | cells ty g xs =>
  obtain ⟨h1, h2, ca, el, fz, cs, h3, h4, h5, h6, h7, h8⟩ := h
  exact ⟨h1, h2, ca, el, fz, cs, hw.trans h3, h4, by rw [renL_replicate]; exact h5.ren hp e, h6, h7, h8⟩
 | mp K es =>
  obtain ⟨h1, h2, ds, ⟨en, cl, h3, h4⟩, h5⟩ := h
  exact ⟨h1, h2, ds, by rw [List.length_map]; exact ⟨en, cl, hw.trans h3, h4⟩, h5.ren hp e⟩
 | loop l st pend n fr ps as bd =>
  obtain ⟨h1, h2, fn, tmps, dl, h3, h4⟩ := h
  refine ⟨h1, h2, fn, tmps, dl, hw.trans h3, h4.1, fun q hq => ?_⟩
  obtain ⟨q, hx, rfl⟩ := List.mem_map.1 hq
  have hq := List.all_eq_true.1 hp q hx
  exact ⟨(h4.2 q hx).1, VL.ren (xs := [q.2]) (h4.2 q hx).2 (by simpa [allL] using hq) e⟩
end Go.Proofs.YtdplbgfokoajjaaGreat
end
