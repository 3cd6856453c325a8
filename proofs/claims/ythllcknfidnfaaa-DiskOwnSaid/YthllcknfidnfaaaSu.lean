/- Regions that draw their order: if what does not stand in an order does not touch, every order comes to the same. -/
import Derived.Test.YthllcknfidnfaaaSt
set_option linter.unusedVariables false
set_option linter.unusedSimpArgs false
namespace Go.Proofs.Ythllcknfidnfaaa
open Go

/-- Of each operation: some of those that come ahead of it in every order, and its number for a new block. -/
abbrev Tab := List (List Nat × Nat)
def Tab.pr (t : Tab) (i : Nat) : List Nat := (t.getD i ([], 0)).1
def Tab.slot (t : Tab) (i : Nat) : Nat := (t.getD i ([], 0)).2

def chkOne (ops : Array Oper) (tab : Tab) (m N i : Nat) (o : Oper) : Bool :=
  (tab.pr i).all (fun k => decide (k < i) && (o.after.any fun e => Region.binds .any e && (e.on == k || (decide (e.on < i) && (tab.pr e.on).contains k)))) &&
  (o.after.all fun e => !Region.binds .any e || decide (e.on < i)) &&
  decide (tab.slot i < ops.size) &&
  (match o.dst with | some t => decide (t < N) | none => true) &&
  (decide (i < m) || (List.range i).all fun k => (tab.pr i).contains k)
def chkTwo (ops : Array Oper) (tab : Tab) (i j : Nat) (o o' : Oper) : Bool :=
  i == j || (tab.slot i != tab.slot j &&
    (match o'.dst with | none => true | some t => o.dst != some t && (!(o.looksAt ops).contains t || (tab.pr i).contains j || (tab.pr j).contains i)))
def chkDraw (ops : Array Oper) (tab : Tab) (m N : Nat) : Bool :=
  decide (m ≤ ops.size) &&
  (List.range ops.size).all fun i => match ops[i]? with
    | none => false
    | some o => chkOne ops tab m N i o && (List.range ops.size).all fun j => match ops[j]? with
      | none => false
      | some o' => chkTwo ops tab i j o o'

structure Rec where
  v : PV
  w : Option (Nat × Blk)
  rd : List Nat
  deriving Inhabited

/-- Two operations that stand in no order may not touch the same block, unless both only look. -/
def clear (rd : List Nat) (w : Option Nat) (rd' : List Nat) (w' : Option Nat) : Bool :=
  (match w with | some b => !rd'.contains b && w' != some b | none => true) && (match w' with | some b => !rd.contains b | none => true)
def noConf (tab : Tab) (i : Nat) (acc : List (Nat × List Nat × Option Nat)) (rd : List Nat) (w : Option Nat) : Bool :=
  acc.all fun p => (tab.pr i).contains p.1 || clear rd w p.2.1 p.2.2
def accAdd (i : Nat) (rd : List Nat) (w : Option Nat) (acc : List (Nat × List Nat × Option Nat)) : List (Nat × List Nat × Option Nat) :=
  if rd.isEmpty && w.isNone then acc else (i, rd, w) :: acc

/-- Operations, each by itself. -/
def RD (E : Env) (ops : Array Oper) (tab : Tab) (base : Nat) (K : Fr → Store → Prop) : Nat → List Oper → Fr → Store → List (Nat × List Nat × Option Nat) → Prop
  | _, [], fr, σ, _ => K fr σ
  | i, o :: os, fr, σ, acc =>
    match sGuard ops o fr with
    | some true => (match isCall o.op with
      | some c => (match sCallee E fr c with
        | some (g, vs) => ∃ rd v, noConf tab i acc rd none = true ∧ (∀ τ, (∀ b ∈ rd, Store.at τ b = Store.at σ b) → C E g vs τ fun re τ' => re = .ret v ∧ τ' = τ) ∧
            RD E ops tab base K (i + 1) os (Fr.put fr o.dst v) σ (accAdd i rd none acc)
        | none => False)
      | none => (match sop E o.op fr σ (base + tab.slot i) with
        | some (v, σ') => noConf tab i acc (foot o.op fr) (wid o.op fr (base + tab.slot i) v) = true ∧ RD E ops tab base K (i + 1) os (Fr.put fr o.dst v) σ' (accAdd i (foot o.op fr) (wid o.op fr (base + tab.slot i) v) acc)
        | none => False))
    | some false => RD E ops tab base K (i + 1) os (Fr.put fr o.dst (.tup [])) σ acc
    | none => False

section
variable {E : Env} {N z : Nat} {Q : Post}

/-- What an operation does from any frame and store that are alike where it looks. -/
def RecOK (E : Env) (N : Nat) (ops : Array Oper) (tab : Tab) (base i : Nat) (o : Oper) (r : Rec) (fr : Fr) (σ : Store) : Prop :=
  (∀ p, r.w = some p → (p.1 ∈ r.rd ∨ p.1 = base + tab.slot i)) ∧
  ∀ fr' τ, (∀ t ∈ o.looksAt ops, Fr.get fr' t = Fr.get fr t) → (∀ b ∈ r.rd, Store.at τ b = Store.at σ b) → τ.length = base + ops.size →
    ∀ (cx : Cx) (a : Act) (Q : Exit → Act → World → Prop) (M : Act → World → Prop), cx.top ≤ base → Now E cx τ → FR E cx N fr' a.tmps → ¬ cx.A (base + tab.slot i) →
      (∀ (cx' : Cx) (val : Value), V E cx' r.v val → Now E cx' (τ.wr r.w) → Step cx cx' → (∀ b, cx'.A b → cx.A b ∨ b = base + tab.slot i ∨ base + ops.size ≤ b) → M (a.put o.dst val) cx'.w) →
      if Region.wanted o (yielded ops a.tmps) then o.wp E.P a cx.w M Q else M (a.put o.dst undef) cx.w

theorem guard_looks {ops : Array Oper} {o : Oper} {j : Nat} {want : Bool} {d : Tmp} (hg : o.guard = some (j, want)) (hd : (ops[j]?).bind (·.dst) = some d) : d ∈ o.looksAt ops := by
  simp [Oper.looksAt, hg, hd]
theorem sGuard_looks {ops : Array Oper} {o : Oper} {fr fr' : Fr} (h : ∀ t ∈ o.looksAt ops, Fr.get fr' t = Fr.get fr t) : sGuard ops o fr' = sGuard ops o fr := by
  unfold sGuard
  split
  · rfl
  · rename_i j want hg
    split
    · rename_i d hd; rw [h d (guard_looks hg hd)]
    · rfl
theorem eval_looks {ops : Array Oper} {o : Oper} {fr fr' : Fr} (h : ∀ t ∈ o.looksAt ops, Fr.get fr' t = Fr.get fr t) {x : Operand} (hx : x ∈ o.op.operands) : Fr.eval fr' x = Fr.eval fr x := by
  cases x with
  | tmp t => exact h t (List.mem_append_left _ (List.mem_filterMap.2 ⟨.tmp t, by simpa using hx, rfl⟩))
  | const v => rfl
  | func f => rfl
  | global g => rfl

theorem upon_value {o : Oper} {a : Act} {cx : Cx} {n : Next} {val : Value} {w' : World} {M : Act → World → Prop} {Q : Exit → Act → World → Prop} (h1 : (execOp a.eval o).run E.P cx.w = .ok n w') (h2 : n = .value val ∨ (n = .skip ∧ val = undef))
    (h : M (a.put o.dst val) w') : o.wp E.P a cx.w M Q := by
  simp only [Oper.wp, h1]
  rcases h2 with rfl | ⟨rfl, rfl⟩ <;> exact h

theorem Now.label {cx : Cx} {σ : Store} (h : Now E cx σ) {n : Nat} (hn : n ≤ σ.length) : Now E (cx.label n) σ :=
  ⟨hn, h.A, h.IF, h.imm, fun b m hb => by
    obtain ⟨blk, a1, a2, a3, a4⟩ := h.dom b m hb
    exact ⟨blk, a1, a2, a3, a4.ext ⟨fun _ h => h, fun _ _ => rfl, fun _ h => h, fun b _ m h => ⟨m, h, Nat.le_refl _, fun _ => rfl⟩⟩ rfl⟩, h.live, h.inj, h.base⟩
theorem Ext.label (cx : Cx) (n : Nat) : Ext cx (cx.label n) := ⟨fun _ h => h, fun _ _ => rfl, fun _ h => h, fun b _ m h => ⟨m, h, Nat.le_refl _, fun _ => rfl⟩⟩

theorem RecOK_skip {ops : Array Oper} {tab : Tab} {base i : Nat} {o : Oper} {fr : Fr} {σ : Store} (hg : sGuard ops o fr = some false) : RecOK E N ops tab base i o ⟨.tup [], none, []⟩ fr σ :=
  ⟨by simp, fun fr' τ h1 h2 hl cx a Q M ht hn hf hA hM => by
    rw [wanted_of_guard hf ((sGuard_looks h1).trans hg)]
    simp only [Bool.false_eq_true, if_false]
    exact hM cx undef V_skip hn (Step.refl cx) fun b hb => .inl hb⟩

theorem RecOK_op (O : E.OK) {ops : Array Oper} {tab : Tab} {base i : Nat} {o : Oper} {fr : Fr} {σ σ' : Store} {v : PV} (hg : sGuard ops o fr = some true) (hs : sop E o.op fr σ (base + tab.slot i) = some (v, σ'))
    (hl : σ.length = base + ops.size) (hi : tab.slot i < ops.size) : ∃ w : Option (Nat × Blk), w.map (·.1) = wid o.op fr (base + tab.slot i) v ∧ σ' = σ.wr w ∧ RecOK E N ops tab base i o ⟨v, w, foot o.op fr⟩ fr σ := by
  obtain ⟨w, e0, e1, e2, e3⟩ := sop_loc hs (by omega)
  refine ⟨w, e0, e1, fun p hp => (e2 p hp).1, fun fr' τ h1 h2 hl' cx a Q M ht hn hf hA hM => ?_⟩
  rw [wanted_of_guard hf ((sGuard_looks h1).trans hg)]
  simp only [if_true]
  have hY := sop_ok O (e3 fr' τ ⟨fun x hx => eval_looks h1 hx, h2⟩ (by omega))
  obtain ⟨n, val, w', cx', k1, k2, rfl, k4, k5, k6, k7⟩ := hY cx a.eval hn hf.ev hA (by omega)
  exact upon_value k1 k2 (hM cx' val k5 k4 k6 fun b hb => (k7 b hb).imp id .inl)

theorem isCall_some {op : Op} {c : Call} (hc : isCall op = some c) : op = .call c := by
  unfold isCall at hc
  split at hc
  · split at hc
    · simp at hc
    · simp only [Option.some.injEq] at hc; subst hc; rfl
  · simp at hc
theorem sCallee_some {fr : Fr} {c : Call} {g : FuncId} {vs : List PV} (hcal : sCallee E fr c = some (g, vs)) :
    ∃ f xs ys ws, c.callee = .value f ∧ Fr.eval fr f = some (.fn (.func g) xs ys) ∧ c.args.toList.mapM (Fr.eval fr) = some ws ∧ E.fk g = true ∧ vs = xs ++ ws ++ ys := by
  unfold sCallee at hcal
  split at hcal
  · rename_i f hf
    split at hcal
    · rename_i g' xs ys ws h1 h2
      split at hcal
      · rename_i hk
        simp only [Option.some.injEq, Prod.mk.injEq] at hcal; obtain ⟨rfl, rfl⟩ := hcal
        exact ⟨f, xs, ys, ws, hf, h1, h2, hk, rfl⟩
      · simp at hcal
    · simp at hcal
  · simp at hcal

theorem RecOK_call (O : E.OK) {ops : Array Oper} {tab : Tab} {base i : Nat} {o : Oper} {fr : Fr} {σ : Store} {v : PV} {c : Call} {g : FuncId} {vs : List PV} {rd : List Nat} (hg : sGuard ops o fr = some true) (hc : isCall o.op = some c) (hcal : sCallee E fr c = some (g, vs))
    (h : ∀ τ, (∀ b ∈ rd, Store.at τ b = Store.at σ b) → C E g vs τ fun re τ' => re = .ret v ∧ τ' = τ) : RecOK E N ops tab base i o ⟨v, none, rd⟩ fr σ := by
  refine ⟨by simp, fun fr' τ h1 h2 hl' cx a Q M ht hn hf hA hM => ?_⟩
  rw [wanted_of_guard hf ((sGuard_looks h1).trans hg)]
  simp only [if_true]
  have ho := isCall_some hc
  obtain ⟨f, xs, ys, ws, c1, c2, c3, c4, rfl⟩ := sCallee_some hcal
  have hop : ∀ x ∈ o.op.operands, Fr.eval fr' x = Fr.eval fr x := fun x hx => eval_looks h1 hx
  have d1 : Fr.eval fr' f = some (.fn (.func g) xs ys) := by rw [hop f (by simp [ho, Op.operands, Call.operands, c1])]; exact c2
  have d2 : c.args.toList.mapM (Fr.eval fr') = some ws := by rw [mapM_near _ fun y hy => hop y (by simp [ho, Op.operands, Call.operands, Array.mem_toList_iff.1 hy])]; exact c3
  obtain ⟨us, us', k1, k2, k3⟩ := (hf.ev f _ d1).fn_inv
  have k4 := VL_map hf.ev d2
  have hrun : (execOp a.eval o).run E.P cx.w = .ok (.enter g (us ++ c.args.map a.eval ++ us')) cx.w := by
    simp [execOp, ho, resolve, c1, k1, Deferred.ofValue, invoke, run_callFunc O c4]
  have hvl : VL E cx (xs ++ ws ++ ys) (us ++ c.args.map a.eval ++ us').toList := by simpa using (k2.app k4).app k3
  simp only [Oper.wp, hrun, Oper.upon_enter]
  refine (h τ h2 (cx.label (base + ops.size)) _ (hn.label (by omega)) (hvl.ext (Ext.label _ _))).mono ?_
  rintro e w' ⟨re, σ', cx', rfl, ⟨rfl, rfl⟩, h4, h5, h6⟩
  cases e <;> simp only [ReOK] at h4
  have hn' : Now E (cx'.label cx.top) σ' := h5.label (by have := hn.top; omega)
  exact hM (cx'.label cx.top) _ (h4.ext (Ext.label _ _)) hn' (h6.relabel (by omega)) fun b hb => (h6.new b hb).imp id .inr

end
end Go.Proofs.Ythllcknfidnfaaa
