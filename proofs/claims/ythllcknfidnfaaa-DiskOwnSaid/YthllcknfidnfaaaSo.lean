/- Calls; regions in the text's order; functions. -/
import Derived.Test.YthllcknfidnfaaaSn
set_option linter.unusedVariables false
set_option linter.unusedSimpArgs false
namespace Go.Proofs.Ythllcknfidnfaaa
open Go

section
variable {E : Env} {N z : Nat} {Q : Post} {fr : Fr} {σ : Store}

theorem VL.app {c : Cx} : ∀ {xs ys : List PV} {us vs : List Value}, VL E c xs us → VL E c ys vs → VL E c (xs ++ ys) (us ++ vs)
  | _, _, _, _, .nil, k => k
  | _, _, _, _, .undef hs, k => .undef (hs.app k)
  | _, _, _, _, .one a b c hs, k => .one a b c (hs.app k)
  | _, _, _, _, .agg a hs, k => .agg a (hs.app k)
  | _, _, _, _, .tup a hs, k => .tup a (hs.app k)

theorem V.fn_inv {c : Cx} {f : Fn} {xs ys : List PV} {v : Value} (h : V E c (.fn f xs ys) v) : ∃ us vs, v = .func f us vs ∧ VL E c xs us.toList ∧ VL E c ys vs.toList := by
  cases h with | one _ hn h hs => cases h with | fn _ _ _ us vs a b => exact ⟨us, vs, rfl, a, b⟩

/-- Behind a call. -/
def afterCall (Q : Post) (K : Fr → Store → Prop) (d : Option Tmp) (fr : Fr) : Re → Store → Prop
  | .ret v, σ => K (Fr.put fr d v) σ
  | .pan x, σ => Q (.pan x) fr σ
@[simp] theorem afterCall_ret (Q : Post) (K : Fr → Store → Prop) (d : Option Tmp) (v : PV) : afterCall Q K d fr (.ret v) σ = K (Fr.put fr d v) σ := rfl

theorem OpW_enter {o : Oper} {K : Fr → Store → Prop} {g : FuncId} {vs : List PV} (hd : ∀ t, o.dst = some t → t < N)
    (hrun : ∀ (cx : Cx) (ρ : Operand → Value), Now E cx σ → Ev E cx fr ρ → ∃ us : Array Value, (execOp ρ o).run E.P cx.w = .ok (.enter g us) cx.w ∧ VL E cx vs us.toList)
    (h : C E g vs σ (afterCall Q K o.dst fr)) : OpW E N z o Q K fr σ := fun cx a ht hn hf => by
  obtain ⟨us, h1, h2⟩ := hrun cx a.eval hn hf.ev
  simp only [Oper.wp, h1, Oper.upon_enter]
  refine (h cx us hn h2).mono ?_
  rintro e w' ⟨re, σ', cx', rfl, h3, h4, h5, h6⟩
  cases re with
  | ret x =>
    cases e <;> simp only [ReOK] at h4
    exact ⟨_, σ', cx', rfl, h3, h5, (hf.step h6).put h4 hd, by cases o.dst <;> rfl, h6⟩
  | pan x =>
    cases e <;> simp only [ReOK] at h4
    exact ⟨.pan x, fr, σ', cx', rfl, h3, h4, h5, hf.step h6, rfl, h6.ofBelow ht⟩

theorem run_callFunc (O : E.OK) {g : FuncId} (hg : E.fk g = true) (us : Array Value) (w : World) : (callFunc g us).run E.P w = .ok (.enter g us) w := by
  obtain ⟨fn, h1, h2, h3⟩ := O.fn g hg
  simp only [callFunc, Sem.run_bind, run_program, Result.andThen_ok, h1, h2, h3, Bool.false_eq_true, if_false, Sem.run_pure]

/-- A call of a function value. -/
theorem OpW_call (O : E.OK) {o : Oper} {K : Fr → Store → Prop} {c : Call} {f : Operand} {g : FuncId} {xs ys vs : List PV} (ho : o.op = .call c) (hc : c.callee = .value f) (hf : Fr.eval fr f = some (.fn (.func g) xs ys))
    (ha : c.args.toList.mapM (Fr.eval fr) = some vs) (hg : E.fk g = true) (hd : ∀ t, o.dst = some t → t < N) (h : C E g (xs ++ vs ++ ys) σ (afterCall Q K o.dst fr)) : OpW E N z o Q K fr σ :=
  OpW_enter hd (fun cx ρ hn he => by
    obtain ⟨us, ws, h1, h2, h3⟩ := (he f _ hf).fn_inv
    have h4 := VL_map he ha
    refine ⟨us ++ c.args.map ρ ++ ws, ?_, by simpa using (h2.app h4).app h3⟩
    simp [execOp, ho, resolve, hc, h1, Deferred.ofValue, invoke, run_callFunc O hg]) h

theorem V_skip {c : Cx} : V E c (.tup []) undef := VL.tup (us := #[]) .nil .nil

/-- An operation's turn, by its guard. -/
def sGuard (ops : Array Oper) (o : Oper) (fr : Fr) : Option Bool :=
  match o.guard with
  | none => some true
  | some (j, want) => match (ops[j]?).bind (·.dst) with
    | some d => match Fr.get fr d with
      | some (.bool b) => some (b == want)
      | some (.tup []) => some false
      | _ => none
    | none => none

theorem VL.nil_toList {c : Cx} {us : Array Value} (h : VL E c [] us.toList) : us = #[] := by
  have : us.toList = [] := by
    generalize us.toList = l at h
    cases h; rfl
  simpa using this

theorem wanted_of_guard {ops : Array Oper} {o : Oper} {cx : Cx} {a : Act} {b : Bool} (hf : FR E cx N fr a.tmps) (h : sGuard ops o fr = some b) : Region.wanted o (yielded ops a.tmps) = b := by
  unfold sGuard at h
  split at h
  · rename_i hg; simp only [Option.some.injEq] at h; subst h; simp [Region.wanted, hg]
  · rename_i j want hg
    split at h
    · rename_i d hd
      split at h
      · rename_i bb hb
        simp only [Option.some.injEq] at h; subst h
        obtain ⟨hlt, hv⟩ := hf.2 d _ hb
        have := V.bool_inv hv
        have h2 : a.tmps[d]? = some (.bool bb) := by
          rw [Array.getElem?_eq_getElem (by rw [hf.1]; exact hlt)]
          simp only [Array.getD_eq_getD_getElem?, Array.getElem?_eq_getElem (show d < a.tmps.size by rw [hf.1]; exact hlt), Option.getD_some] at this
          rw [this]
        simp only [Region.wanted, hg, yielded, hd, Option.bind_some, h2]
        cases bb <;> cases want <;> rfl
      · rename_i hb
        simp only [Option.some.injEq] at h; subst h
        obtain ⟨hlt, hv⟩ := hf.2 d _ hb
        have : a.tmps.getD d undef = .tuple #[] := by
          obtain ⟨us, h1, h2⟩ := hv.tup_inv
          have := VL.nil_toList h2
          rw [h1, this]
        have h2 : a.tmps[d]? = some (.tuple #[]) := by
          rw [Array.getElem?_eq_getElem (by rw [hf.1]; exact hlt)]
          simp only [Array.getD_eq_getD_getElem?, Array.getElem?_eq_getElem (show d < a.tmps.size by rw [hf.1]; exact hlt), Option.getD_some] at this
          rw [this]
        simp only [Region.wanted, hg, yielded, hd, Option.bind_some, h2]
        rfl
      · simp at h
    · simp at h

/-- Operations in the text's order. -/
def ROps (E : Env) (N z : Nat) (ops : Array Oper) (Q : Post) (K : Fr → Store → Prop) : List Oper → Fr → Store → Prop
  | [], fr, σ => K fr σ
  | o :: os, fr, σ => ∃ b, sGuard ops o fr = some b ∧ if b then OpW E N z o Q (ROps E N z ops Q K os) fr σ else ROps E N z ops Q K os (Fr.put fr o.dst (.tup [])) σ

theorem wpList_of_ROps {ops : Array Oper} {K : Fr → Store → Prop} (hQ : ∀ fr σ, K fr σ → Q .normal fr σ) : ∀ (os : List Oper) (fr : Fr) (σ : Store), (∀ o ∈ os, ∀ t, o.dst = some t → t < N) → ROps E N z ops Q K os fr σ →
    ∀ (cx cx0 : Cx) (a : Act), cx.top ≤ z → Now E cx σ → FR E cx N fr a.tmps → Step (cx0.below z) cx → wpList E.P ops (Lift E N z a.defers cx0 Q) os a cx.w
  | [], fr, σ, hd, h, cx, cx0, a, ht, hn, hf, hs => by
    refine wpList_nil ⟨.normal, fr, σ, cx, rfl, hQ _ _ h, trivial, hn, hf, rfl, hs⟩
  | o :: os, fr, σ, hd, h, cx, cx0, a, ht, hn, hf, hs => by
    obtain ⟨b, hb, h⟩ := h
    have hw := wanted_of_guard hf hb
    unfold wpList
    rw [hw]
    cases b with
    | true =>
      simp only [if_true] at h ⊢
      refine .inl (Oper.wp_mono' ?_ ?_ (h cx a ht hn hf))
      · rintro a' w' ⟨fr', σ', cx', rfl, hk, hn', hf', hd', hs'⟩
        have := wpList_of_ROps hQ os fr' σ' (fun o ho => hd o (by simp [ho])) hk cx' cx0 a' (hs'.top ▸ ht) hn' hf' (hs.transB (hs'.ofBelow ht))
        rw [hd'] at this; exact this
      · intro e a' w' hl; exact Lift.step hs hl
    | false =>
      simp only [Bool.false_eq_true, if_false] at h ⊢
      have hput : FR E cx N (Fr.put fr o.dst (.tup [])) (a.put o.dst undef).tmps := hf.put V_skip (hd o (by simp))
      have := wpList_of_ROps hQ os _ σ (fun o ho => hd o (by simp [ho])) h cx cx0 (a.put o.dst undef) ht hn hput hs
      have hde : (a.put o.dst undef).defers = a.defers := by cases o.dst <;> rfl
      rw [hde] at this; exact this
where
  Oper.wp_mono' {P : Program} {o : Oper} {a : Act} {w : World} {K K' : Act → World → Prop} {Q Q' : Exit → Act → World → Prop} (hk : ∀ a w, K a w → K' a w) (hq : ∀ e a w, Q e a w → Q' e a w) (h : o.wp P a w K Q) : o.wp P a w K' Q' := by
    unfold Oper.wp Oper.upon at *
    split at h
    · exact hk _ _ h
    · exact hk _ _ h
    · exact hk _ _ h
    · refine h.mono fun e w' he => ?_
      cases e with
      | returned v => exact hk _ _ he
      | panicked ch => exact hq _ _ _ he
      | outgrown => obtain ⟨a0, w0, h0⟩ := he; exact ⟨a0, w0, hq _ _ _ h0⟩
    · exact h.mono fun v w' he => hk _ _ he
    · exact hq _ _ _ h
    · exact h.elim

theorem T_region {id : Nat} {ops : Array Oper} (hd : ops.toList.all fun o => match o.dst with | some t => decide (t < N) | none => true) (h : ROps E N z ops Q (Q .normal) ops.toList fr σ) : T E N z (.region id ops false) Q fr σ := fun cx a ht hn hf =>
  wp_region_list (wpList_of_ROps (fun _ _ h => h) ops.toList fr σ (fun o ho t ht => by
    have := List.all_eq_true.1 hd o ho
    rw [ht] at this; simpa using this) h cx cx a ht hn hf ((Step.refl cx).ofBelow ht))

theorem ROps_nil {ops : Array Oper} {K : Fr → Store → Prop} (h : K fr σ) : ROps E N z ops Q K [] fr σ := h
theorem ROps_op (O : E.OK) {ops : Array Oper} {K : Fr → Store → Prop} {o : Oper} {os : List Oper} {v : PV} {σ' : Store} (hg : o.guard = none) (hd : ∀ t, o.dst = some t → t < N) (hs : sop E o.op fr σ σ.length = some (v, σ'))
    (h : ROps E N z ops Q K os (Fr.put fr o.dst v) σ') : ROps E N z ops Q K (o :: os) fr σ :=
  ⟨true, by simp [sGuard, hg], by simpa using OpW_yld (Nat.le_refl _) (sop_ok O hs) hd h⟩
theorem ROps_guard {ops : Array Oper} {K : Fr → Store → Prop} {o : Oper} {os : List Oper} {b : Bool} (hb : sGuard ops o fr = some b) (h1 : b = true → ROps E N z ops Q K ({ o with guard := none } :: os) fr σ)
    (h0 : b = false → ROps E N z ops Q K os (Fr.put fr o.dst (.tup [])) σ) : ROps E N z ops Q K (o :: os) fr σ := by
  cases b with
  | true =>
    obtain ⟨b', hb', h⟩ := h1 rfl
    simp only [sGuard, Option.some.injEq] at hb'; subst hb'
    simp only [if_true] at h
    exact ⟨true, hb, h⟩
  | false => exact ⟨false, hb, by simpa using h0 rfl⟩
theorem ROps_call (O : E.OK) {ops : Array Oper} {K : Fr → Store → Prop} {o : Oper} {os : List Oper} {c : Call} {f : Operand} {g : FuncId} {xs ys vs : List PV} (hgd : o.guard = none) (hd : ∀ t, o.dst = some t → t < N)
    (ho : o.op = .call c) (hc : c.callee = .value f) (hf : Fr.eval fr f = some (.fn (.func g) xs ys)) (ha : c.args.toList.mapM (Fr.eval fr) = some vs) (hg : E.fk g = true)
    (h : C E g (xs ++ vs ++ ys) σ (afterCall Q (ROps E N z ops Q K os) o.dst fr)) : ROps E N z ops Q K (o :: os) fr σ :=
  ⟨true, by simp [sGuard, hgd], by simpa using OpW_call O ho hc hf ha hg hd h⟩

/-! Functions. -/

def Fr.args : Nat → List PV → Fr
  | _, [] => []
  | k, x :: xs => (k, x) :: Fr.args (k + 1) xs

theorem Fr.get_args : ∀ (k : Nat) (xs : List PV) (t : Nat) (x : PV), Fr.get (Fr.args k xs) t = some x → k ≤ t ∧ xs[t - k]? = some x
  | k, [], t, x, h => by simp [Fr.args, Fr.get] at h
  | k, y :: ys, t, x, h => by
    simp only [Fr.args, Fr.get] at h
    split at h
    · rename_i e; subst e
      simp only [Option.some.injEq] at h; subst h; simp
    · have := Fr.get_args (k + 1) ys t x h
      refine ⟨by omega, ?_⟩
      obtain ⟨h1, h2⟩ := this
      rw [show t - k = (t - (k + 1)) + 1 by omega]; simpa using h2

def sRes (E : Env) (fr : Fr) (σ : Store) : List ResultVar → Option (List PV)
  | [] => some []
  | .tmp t :: rs => match Fr.get fr t, sRes E fr σ rs with | some x, some xs => some (x :: xs) | _, _ => none
  | .cell a T :: rs => match Fr.get fr a, sRes E fr σ rs with
    | some p, some xs => if E.kn T then (match sLoad E T p σ with | some x => some (x :: xs) | none => none) else none
    | _, _ => none

def oneOf : List PV → PV
  | [x] => x
  | xs => .tup xs

theorem VL.len {c : Cx} : ∀ {xs : List PV} {vs : List Value}, VL E c xs vs → xs.length = vs.length
  | _, _, .nil => rfl
  | _, _, .undef hs => by simp [hs.len]
  | _, _, .one _ _ _ hs => by simp [hs.len]
  | _, _, .agg _ hs => by simp [hs.len]
  | _, _, .tup _ hs => by simp [hs.len]

theorem VL.cons' {c : Cx} {x : PV} {xs : List PV} {v : Value} {vs : List Value} (h : V E c x v) (hs : VL E c xs vs) : VL E c (x :: xs) (v :: vs) := by
  cases h with
  | undef _ => exact .undef hs
  | one a b c _ => exact .one a b c hs
  | agg a _ => exact .agg a hs
  | tup a _ => exact .tup a hs

def resOne (tmps : Array Value) (r : ResultVar) : Sem Value :=
  match r with
  | .tmp t => pure (tmps.getD t undef)
  | .cell a t => do loadVar t (← asAddr (tmps.getD a undef))

theorem results_eq (fn : Func) (tmps : Array Value) : results fn tmps = (do let vs ← fn.results.mapM (resOne tmps); pure (if h : vs.size = 1 then vs[0] else .tuple vs)) := by
  unfold results
  rfl

theorem results_ok (O : E.OK) {cx : Cx} {tmps : Array Value} (hn : Now E cx σ) (hf : FR E cx N fr tmps) : ∀ (rs : List ResultVar) (xs : List PV), sRes E fr σ rs = some xs →
    ∃ vs : List Value, (rs.mapM (resOne tmps)).run E.P cx.w = .ok vs cx.w ∧ VL E cx xs vs
  | [], xs, h => by simp [sRes] at h; subst h; exact ⟨[], by simp, .nil⟩
  | .tmp t :: rs, xs, h => by
    simp only [sRes] at h
    split at h
    · rename_i x ys h1 h2
      simp only [Option.some.injEq] at h; subst h
      obtain ⟨vs, i1, i2⟩ := results_ok O hn hf rs ys h2
      exact ⟨_ :: vs, by simp [i1, resOne], .cons' (hf.2 t x h1).2 i2⟩
    · simp at h
  | .cell a T :: rs, xs, h => by
    simp only [sRes] at h
    split at h
    · rename_i p ys h1 h2
      split at h
      · rename_i hk
        split at h
        · rename_i x hx
          simp only [Option.some.injEq] at h; subst h
          obtain ⟨vs, i1, i2⟩ := results_ok O hn hf rs ys h2
          obtain ⟨u, j1, j2⟩ := load_ok O hn hk (hf.2 a p h1).2 hx
          refine ⟨u :: vs, ?_, .cons' j2 i2⟩
          have : (resOne tmps (.cell a T)).run E.P cx.w = .ok u cx.w := by
            revert j1
            cases hv : tmps.getD a undef with
            | pointer q =>
              cases q with
              | none => simp [Instr.loadAt, Instr.sureAddr]
              | some q => simp [Instr.loadAt, Instr.sureAddr, asAddr, resOne, hv]
            | _ => simp [Instr.loadAt, Instr.sureAddr]
          simp only [List.mapM_cons, Sem.run_bind, this, Result.andThen_ok, i1, Sem.run_pure]
        · simp at h
      · simp at h
    · simp at h

/-- A function's body, and what it hands back. -/
def bodyQ (E : Env) (rs : List ResultVar) (R : Re → Store → Prop) : Post
  | .normal, fr, σ | .ret, fr, σ => ∃ xs, sRes E fr σ rs = some xs ∧ R (.ret (oneOf xs)) σ
  | .pan x, _, σ => R (.pan x) σ
  | _, _, _ => False

theorem C_body (O : E.OK) {f : FuncId} {fn : Func} {c : Code} {args : List PV} {R : Re → Store → Prop} (hfn : E.P.funcs[f]? = some fn) (hb : fn.body = some c) (hl : args.length ≤ fn.ntmps)
    (h : T E fn.ntmps σ.length c (bodyQ E fn.results.toList R) (Fr.args 0 args) σ) : C E f args σ R := fun cx vs hn hv => by
  have hlen := hv.len
  have hsz : vs.size = args.length := by simpa using hlen.symm
  have hf : FR E cx fn.ntmps (Fr.args 0 args) (vs ++ Array.replicate (fn.ntmps - vs.size) undef) := by
    refine ⟨by simp; omega, fun t x ht => ?_⟩
    obtain ⟨_, h1⟩ := Fr.get_args 0 args t x ht
    simp only [Nat.sub_zero] at h1
    have hlt := getElem?_lt h1
    obtain ⟨v, k1, k2⟩ := hv.nth t x h1
    refine ⟨by omega, ?_⟩
    have : (vs ++ Array.replicate (fn.ntmps - vs.size) undef).getD t undef = v := by
      simp only [Array.getD_eq_getD_getElem?]
      rw [Array.getElem?_append_left (by omega)]
      have : vs[t]? = some v := by simpa using k1
      simp [this]
    rw [this]; exact k2
  have hn1 : Now E (cx.label σ.length) σ := ⟨Nat.le_refl _, hn.A, hn.IF, hn.imm, fun b m h => by
    obtain ⟨blk, a1, a2, a3, a4⟩ := hn.dom b m h
    exact ⟨blk, a1, a2, a3, a4.ext ⟨fun _ h => h, fun _ _ => rfl, fun _ h => h, fun b _ m h => ⟨m, h, Nat.le_refl _, fun _ => rfl⟩⟩ rfl⟩, hn.live, hn.inj, hn.base⟩
  have hf1 : FR E (cx.label σ.length) fn.ntmps (Fr.args 0 args) (vs ++ Array.replicate (fn.ntmps - vs.size) undef) :=
    ⟨hf.1, fun t x h => ⟨(hf.2 t x h).1, (hf.2 t x h).2.ext ⟨fun _ h => h, fun _ _ => rfl, fun _ h => h, fun b _ m h => ⟨m, h, Nat.le_refl _, fun _ => rfl⟩⟩⟩⟩
  refine calls_of_wp hfn hb (wp_mono (h (cx.label σ.length) { tmps := vs ++ Array.replicate (fn.ntmps - vs.size) undef, defers := [] } (Nat.le_refl _) hn1 hf1) ?_)
  rintro e a w ⟨ex, fr', σ', cx', rfl, h2, h3, h4, h5, h6, h7⟩
  have h7 : Step (cx.label σ.length) cx' := ⟨⟨h7.ext.I, h7.ext.keeps, fun b hb => h7.ext.A b ⟨hb, hn.A b hb⟩, fun b hb => h7.ext.mu b ⟨hb, hn.A b hb⟩⟩, h7.F, h7.keeps, h7.grow, h7.muold, h7.top, fun b hb => (h7.new b hb).imp And.left id, h7.size, h7.os, h7.tape, h7.output⟩
  have h8 := h7.relabel (c := cx) hn.top
  have hle : Ext cx' (cx'.label cx.top) := ⟨fun _ h => h, fun _ _ => rfl, fun _ h => h, fun b _ m h => ⟨m, h, Nat.le_refl _, fun _ => rfl⟩⟩
  have h9 : Now E (cx'.label cx.top) σ' := ⟨Nat.le_trans (show cx.top ≤ cx'.top from h7.top ▸ hn.top) h4.top, h4.A, h4.IF, h4.imm, fun b m h => by
    obtain ⟨blk, a1, a2, a3, a4⟩ := h4.dom b m h
    exact ⟨blk, a1, a2, a3, a4.ext hle rfl⟩, h4.live, h4.inj, h4.base⟩
  have res : ∀ xs, sRes E fr' σ' fn.results.toList = some xs → ∃ v, (results fn a.tmps).run E.P cx'.w = .ok v cx'.w ∧ V E cx' (oneOf xs) v := fun xs hx => by
    obtain ⟨us, i1, i2⟩ := results_ok O h4 h5 _ _ hx
    have hm : (fn.results.mapM (resOne a.tmps)).run E.P cx'.w = .ok us.toArray cx'.w := by
      rw [← Array.toArray_toList (xs := fn.results), List.mapM_toArray]
      simp only [Sem.run_map, i1, Result.andThen_ok]
    have hl := i2.len
    have hr : (results fn a.tmps).run E.P cx'.w = .ok (if h : us.toArray.size = 1 then us.toArray[0] else .tuple us.toArray) cx'.w := by
      rw [results_eq, Sem.run_bind, hm]; rfl
    refine ⟨_, hr, ?_⟩
    match xs, us, i2, hl with
    | [], [], i2, _ => exact .tup i2 .nil
    | [x], [u], i2, _ => exact i2
    | x :: y :: zs, u :: v :: ws, i2, _ => exact VL.tup (us := (u :: v :: ws).toArray) i2 .nil
  cases ex <;> cases e <;> simp only [ExOK] at h3
  · obtain ⟨xs, hx, hR⟩ := h2
    obtain ⟨v, r1, r2⟩ := res xs hx
    exact ⟨h6, v, r1, .ret _, σ', cx'.label cx.top, rfl, hR, r2.ext hle, h9, h8⟩
  · exact h2.elim
  · obtain ⟨xs, hx, hR⟩ := h2
    obtain ⟨v, r1, r2⟩ := res xs hx
    exact ⟨h6, v, r1, .ret _, σ', cx'.label cx.top, rfl, hR, r2.ext hle, h9, h8⟩
  · obtain ⟨v, e1, e2⟩ := h3
    exact ⟨h6, .pan _, σ', cx'.label cx.top, rfl, h2, ⟨v, e1, e2.ext hle⟩, h9, h8⟩

end
end Go.Proofs.Ythllcknfidnfaaa
