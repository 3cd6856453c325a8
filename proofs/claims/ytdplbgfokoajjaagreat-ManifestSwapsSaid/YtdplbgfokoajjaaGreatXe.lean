/- Regions once more, their operations trimmed to what a walk looks at; branches as one proposition. -/
import Derived.Test.YtdplbgfokoajjaaGreatXd
section
set_option maxRecDepth 20000
set_option linter.unusedVariables false
set_option linter.unusedSimpArgs false
namespace Go.Proofs.YtdplbgfokoajjaaGreat
open Go
structure POp where
 g : Option (Option Tmp × Bool)
 d : Option Tmp
 op : Op
def pg (ops : Array Oper) : Option (Nat × Bool) → Option (Option Tmp × Bool)
 | none => none
 | some (j, w) => some ((ops[j]?).bind (·.dst), w)
def prep (ops : Array Oper) : List Oper → List POp
 | [] => []
 | o :: os => ⟨pg ops o.guard, o.dst, o.op⟩ :: prep ops os
def pGuard (g : Option (Option Tmp × Bool)) (fr : Fr) : Option Bool :=
 match g with
 | none => some true
 | some (some d, w) => match Fr.get fr d with
  | some (.bool b) => some (b == w)
  | some (.tup []) => some false
  | _ => none
 | some (none, _) => none
def RG (E : Env) (Q : Post) (K : Fr → Store → Prop) : List POp → Fr → Store → Prop
 | [], fr, σ => K fr σ
 | o :: os, fr, σ =>
  match pGuard o.g fr with
  | some true => (match isCall o.op with
   | some c => (match sCallee E fr c with
    | some (g, vs) => C E g vs σ (afterCall Q (RG E Q K os) o.d fr)
    | none => (match sYield fr c with
     | some (l, vs) => YR E l vs σ (afterCall Q (RG E Q K os) o.d fr)
     | none => False))
   | none => (match nilCmp E o.op fr σ with
    | some bs => ∀ b ∈ bs, RG E Q K os (Fr.put fr o.d b) σ
    | none => (match sop E o.op fr σ σ.length with
     | some (v, σ') => RG E Q K os (Fr.put fr o.d v) σ'
     | none => (match xop E o.op fr σ with
      | some (v, σ') => RG E Q K os (Fr.put fr o.d v) σ'
      | none => False))))
  | some false => RG E Q K os (Fr.put fr o.d (.tup [])) σ
  | none => False
def afterRG (E : Env) (Q : Post) (K : Fr → Store → Prop) (os : List POp) (d : Option Tmp) (fr : Fr) (re : Re) (σ : Store) : Prop := afterCall Q (RG E Q K os) d fr re σ
section
variable {E : Env} {N z : Nat} {Q : Post} {K : Fr → Store → Prop} {fr : Fr} {σ : Store}
theorem RG_nil : RG E Q K [] fr σ = K fr σ := rfl
theorem RG_skip {d d' : Option Tmp} {w b : Bool} {op : Op} {os : List POp} {t : Tmp} (h : d' = some t) : RG E Q K (⟨some (d', w), d, op⟩ :: os) fr σ =
  match Fr.get fr t with
  | some (.bool b) => if b = w then RG E Q K (⟨none, d, op⟩ :: os) fr σ else RG E Q K os (Fr.put fr d (.tup [])) σ
  | some (.tup []) => RG E Q K os (Fr.put fr d (.tup [])) σ
  | _ => False := by
 subst h
 rw [RG]
 simp only [pGuard]
 cases hq : Fr.get fr t with
 | none => rfl
 | some v =>
  cases v with
  | bool b => cases b <;> cases w <;> simp [RG, pGuard] <;> rfl
  | tup vs => cases vs <;> rfl
  | _ => rfl
theorem RG_call {d : Option Tmp} {c : Call} {f : Operand} {os : List POp} (hc : c.callee = .value f) : RG E Q K (⟨none, d, .call c⟩ :: os) fr σ =
  match sCallee E fr c with
    | some (g, vs) => C E g vs σ (afterRG E Q K os d fr)
    | none => (match sYield fr c with
     | some (l, vs) => YR E l vs σ (afterRG E Q K os d fr)
     | none => False) := by
 rw [RG]; simp only [pGuard, isCall, hc]; rfl
theorem RG_plain {d : Option Tmp} {op : Op} {os : List POp} (h1 : isCall op = none) : RG E Q K (⟨none, d, op⟩ :: os) fr σ =
  match nilCmp E op fr σ with
    | some bs => ∀ b ∈ bs, RG E Q K os (Fr.put fr d b) σ
    | none => (match sop E op fr σ σ.length with
     | some (v, σ') => RG E Q K os (Fr.put fr d v) σ'
     | none => (match xop E op fr σ with
      | some (v, σ') => RG E Q K os (Fr.put fr d v) σ'
      | none => False)) := by
 rw [RG]; simp only [pGuard, h1]
def aop (E : Env) (op : Op) (fr : Fr) (σ : Store) : Option (PV × Store) :=
 match sop E op fr σ σ.length with
 | some r => some r
 | none => xop E op fr σ
theorem RG_aop {d : Option Tmp} {op : Op} {os : List POp} (h1 : isCall op = none) (h2 : nilCmp E op fr σ = none) : RG E Q K (⟨none, d, op⟩ :: os) fr σ =
  match aop E op fr σ with
  | some (v, σ') => RG E Q K os (Fr.put fr d v) σ'
  | none => False := by
 rw [RG_plain h1, h2]
 unfold aop
 cases sop E op fr σ σ.length <;> rfl
theorem sGuard_prep {ops : Array Oper} {o : Oper} : sGuard ops o fr = pGuard (pg ops o.guard) fr := by
 unfold sGuard
 cases o.guard with
 | none => rfl
 | some p =>
  obtain ⟨j, w⟩ := p
  simp only [pg]
  cases (ops[j]?).bind (·.dst) <;> rfl
theorem RF_of_RG {ops : Array Oper} : ∀ {os : List Oper} {fr : Fr} {σ : Store}, RG E Q K (prep ops os) fr σ → RF E ops Q K os fr σ
 | [], fr, σ, h => h
 | o :: os, fr, σ, h => by
  have ih := fun fr σ => RF_of_RG (ops := ops) (os := os) (fr := fr) (σ := σ)
  rw [prep, RG] at h
  rw [RF, sGuard_prep]
  split at h
  ·rename_i hg
   simp only [hg]
   split at h
   ·rename_i c hc
    simp only [hc]
    split at h
    ·rename_i g vs hcal
     simp only [hcal]
     exact h.mono fun re σ => afterCall.mono ih
    ·rename_i hcal
     simp only [hcal]
     split at h
     ·rename_i l vs hy
      simp only [hy]
      exact h.mono fun re σ => afterCall.mono ih
     ·exact h.elim
   ·rename_i hc
    simp only [hc]
    split at h
    ·rename_i bs hb
     simp only [hb]
     exact fun b hb => ih _ _ (h b hb)
    ·rename_i hb
     simp only [hb]
     split at h
     ·rename_i v σ' hs
      simp only [hs]
      exact ih _ _ h
     ·rename_i hs
      simp only [hs]
      split at h
      ·rename_i v σ' hx
       simp only [hx]
       exact ih _ _ h
      ·exact h.elim
  ·rename_i hg
   simp only [hg]
   exact ih _ _ h
  ·exact h.elim
theorem s_reg (O : E.OK) {id : Nat} {ops : Array Oper} {k : List It} (hd : (ops.toList.all fun o => match o.dst with | some t => decide (t < N) | none => true) = true) (h : RG E (SP E N z Q k) (SP E N z Q k .normal) (prep ops ops.toList) fr σ) : T E N z (.region id ops false) (SP E N z Q k) fr σ :=
 T_reg O hd (RF_of_RG h)
end
structure DOp where
 o : POp
 pr : List Nat
 sl : Nat
def prepD (ops : Array Oper) (tab : Tab) : Nat → List Oper → List DOp
 | _, [] => []
 | i, o :: os => ⟨⟨pg ops o.guard, o.dst, o.op⟩, tab.pr i, tab.slot i⟩ :: prepD ops tab (i + 1) os
def noC (pr : List Nat) (acc : List (Nat × List Nat × Option Nat)) (rd : List Nat) (w : Option Nat) : Bool :=
 acc.all fun p => pr.contains p.1 || clear rd w p.2.1 p.2.2
def DPcall (E : Env) (pr : List Nat) (acc : List (Nat × List Nat × Option Nat)) (σ : Store) (g : FuncId) (vs : List PV) (M : List Nat → PV → Prop) : Prop :=
 ∃ rd v, noC pr acc rd none = true ∧ (∀ τ, (∀ b ∈ rd, Store.at τ b = Store.at σ b) → C E g vs τ fun re τ' => re = .ret v ∧ τ' = τ) ∧ M rd v
def DP (E : Env) (base : Nat) (K : Fr → Store → Prop) : Nat → List DOp → Fr → Store → List (Nat × List Nat × Option Nat) → Prop
 | _, [], fr, σ, _ => K fr σ
 | i, ⟨o, pr, sl⟩ :: os, fr, σ, acc =>
  match pGuard o.g fr with
  | some true => (match isCall o.op with
   | some c => (match sCallee E fr c with
    | some (g, vs) => DPcall E pr acc σ g vs fun rd v => DP E base K (i + 1) os (Fr.put fr o.d v) σ (accAdd i rd none acc)
    | none => False)
   | none => (match sop E o.op fr σ (base + sl) with
    | some (v, σ') => noC pr acc (foot o.op fr) (wid o.op fr (base + sl) v) = true ∧ DP E base K (i + 1) os (Fr.put fr o.d v) σ' (accAdd i (foot o.op fr) (wid o.op fr (base + sl) v) acc)
    | none => False))
  | some false => DP E base K (i + 1) os (Fr.put fr o.d (.tup [])) σ acc
  | none => False
section
variable {E : Env} {N z : Nat} {Q : Post} {K K' : Fr → Store → Prop} {fr : Fr} {σ : Store}
theorem DP_nil {base i : Nat} {acc : List (Nat × List Nat × Option Nat)} : DP E base K i [] fr σ acc = K fr σ := by simp [DP]
theorem DP_skip {base i sl : Nat} {pr : List Nat} {acc : List (Nat × List Nat × Option Nat)} {d d' : Option Tmp} {w b : Bool} {op : Op} {os : List DOp} {t : Tmp} (h : d' = some t) : DP E base K i (⟨⟨some (d', w), d, op⟩, pr, sl⟩ :: os) fr σ acc =
  match Fr.get fr t with
  | some (.bool b) => if b = w then DP E base K i (⟨⟨none, d, op⟩, pr, sl⟩ :: os) fr σ acc else DP E base K (i + 1) os (Fr.put fr d (.tup [])) σ acc
  | some (.tup []) => DP E base K (i + 1) os (Fr.put fr d (.tup [])) σ acc
  | _ => False := by
 subst h
 rw [DP]
 simp only [pGuard]
 cases hq : Fr.get fr t with
 | none => rfl
 | some v =>
  cases v with
  | bool b => cases b <;> cases w <;> simp [DP, pGuard]
  | tup vs => cases vs <;> rfl
  | _ => rfl
theorem DP_call {base i sl : Nat} {pr : List Nat} {acc : List (Nat × List Nat × Option Nat)} {d : Option Tmp} {c : Call} {f : Operand} {os : List DOp} (hc : c.callee = .value f) : DP E base K i (⟨⟨none, d, .call c⟩, pr, sl⟩ :: os) fr σ acc =
  match sCallee E fr c with
  | some (g, vs) => DPcall E pr acc σ g vs fun rd v => DP E base K (i + 1) os (Fr.put fr d v) σ (accAdd i rd none acc)
  | none => False := by
 rw [DP]; simp only [pGuard, isCall, hc]
theorem DP_op {base i sl : Nat} {pr : List Nat} {acc : List (Nat × List Nat × Option Nat)} {d : Option Tmp} {op : Op} {os : List DOp} (h1 : isCall op = none) : DP E base K i (⟨⟨none, d, op⟩, pr, sl⟩ :: os) fr σ acc =
  match sop E op fr σ (base + sl) with
  | some (v, σ') => noC pr acc (foot op fr) (wid op fr (base + sl) v) = true ∧ DP E base K (i + 1) os (Fr.put fr d v) σ' (accAdd i (foot op fr) (wid op fr (base + sl) v) acc)
  | none => False := by
 rw [DP]; simp only [pGuard, h1]
theorem RD_of_DP {ops : Array Oper} {tab : Tab} {base : Nat} (hK : ∀ fr σ, K fr σ → K' fr σ) : ∀ {i : Nat} {os : List Oper} {fr : Fr} {σ : Store} {acc : List (Nat × List Nat × Option Nat)}, DP E base K i (prepD ops tab i os) fr σ acc → RD E ops tab base K' i os fr σ acc
 | i, [], fr, σ, acc, h => hK _ _ h
 | i, o :: os, fr, σ, acc, h => by
  have ih := fun fr σ acc => RD_of_DP (ops := ops) (tab := tab) (base := base) hK (i := i + 1) (os := os) (fr := fr) (σ := σ) (acc := acc)
  rw [prepD, DP] at h
  dsimp only at h
  rw [RD, sGuard_prep]
  split at h
  ·rename_i hg
   simp only [hg]
   split at h
   ·rename_i c hc
    simp only [hc]
    split at h
    ·rename_i g vs hcal
     simp only [hcal]
     obtain ⟨rd, v, h1, h2, h3⟩ := h
     exact ⟨rd, v, h1, h2, ih _ _ _ h3⟩
    ·exact h.elim
   ·rename_i hc
    simp only [hc]
    split at h
    ·rename_i v σ' hs
     simp only [hs]
     exact ⟨h.1, ih _ _ _ h.2⟩
    ·exact h.elim
  ·rename_i hg
   simp only [hg]
   exact ih _ _ _ h
  ·exact h.elim
theorem s_draw (O : E.OK) (hmix : E.P.follows .mixedOrders = true) {id : Nat} {ops : Array Oper} {k : List It} (tab : Tab) (m : Nat) (hchk : chkDraw ops tab m N = true)
  (h : DP E σ.length (RG E (SP E N z Q k) (SP E N z Q k .normal) (prep ops (ops.toList.drop m))) 0 (prepD ops tab 0 (ops.toList.take m)) fr (σ ++ List.replicate ops.size none) []) : T E N z (.region id ops true) (SP E N z Q k) fr σ :=
 T_draw O hmix tab m hchk (RD_of_DP (fun _ _ => RF_of_RG) h)
def RA (E : Env) (Q : Post) (ops : Array Oper) (K : Fr → Store → Prop) : Nat → List Bool → Fr → Store → Prop
 | 0, l, fr, σ => Region.ready .any ops l.toArray = [] ∧ K fr σ
 | n + 1, l, fr, σ => (Region.ready .any ops l.toArray = [] → K fr σ) ∧ ∀ i ∈ Region.ready .any ops l.toArray, ∀ o, ops[i]? = some o → RG E Q (RA E Q ops K n (l.set i true)) (prep ops [o]) fr σ
end
attribute [simp] RG_nil prep pg prepD DP_nil noC nilCmp aop sop isCall sCallee Fr.eval Fr.get Fr.put ofConst sLoad sStore sBuiltin Fr.args bodyQ sRes oneOf sBin sInt sUn sEqL
attribute [simp] clear accAdd Tab.pr Tab.slot foot wid idOf refId Op.operands Call.operands sFieldAddr sNilCheck sLookup keyLit sMapSet sMapDel sLen Store.at Store.new getP setP typeAt fits evalParts sBuildSlice sFill sList sApp sAppend frzRe pureB pureL
section
variable {σ : Store} {n : Nat}
@[simp] theorem fz_nils : frz σ (n + 1) .nils = some (.lit []) := rfl
@[simp] theorem fz_ref {b g off len : Nat} : frz σ (n + 1) (.ref b g off len) = match Store.at σ b with
      | some (.cells ty g' xs) => if g' = g ∧ off + len ≤ xs.length then (((xs.drop off).take len).mapM (frz σ n)).map .lit else none
      | _ => none := rfl
@[simp] theorem fz_agg {t : TypeId} {fs : List PV} : frz σ (n + 1) (.agg t fs) = (fs.mapM (frz σ n)).map (.agg t) := rfl
@[simp] theorem fz_tup {vs : List PV} : frz σ (n + 1) (.tup vs) = (vs.mapM (frz σ n)).map .tup := rfl
@[simp] theorem fz_lit {xs : List PV} : frz σ (n + 1) (.lit xs) = some (.lit xs) := rfl
@[simp] theorem fz_int {k : IntKind} {i : Int} : frz σ (n + 1) (.int k i) = some (.int k i) := rfl
@[simp] theorem fz_bool {b : Bool} : frz σ (n + 1) (.bool b) = some (.bool b) := rfl
@[simp] theorem fz_str {s : ByteArray} : frz σ (n + 1) (.str s) = some (.str s) := rfl
@[simp] theorem fz_nilp : frz σ (n + 1) .nilp = some .nilp := rfl
@[simp] theorem fz_nilm : frz σ (n + 1) .nilm = some .nilm := rfl
@[simp] theorem fz_nilf : frz σ (n + 1) .nilf = some .nilf := rfl
@[simp] theorem fz_nili : frz σ (n + 1) .nili = some .nili := rfl
@[simp] theorem fz_fn {f : Fn} {a b : List PV} : frz σ (n + 1) (.fn f a b) = if pureL a && pureL b then some (.fn f a b) else none := rfl
@[simp] theorem fz_iface {t : TypeId} {y : PV} : frz σ (n + 1) (.iface t y) = if pureB y then some (.iface t y) else none := rfl
@[simp] theorem fz_laddr {y : PV} : frz σ (n + 1) (.laddr y) = if pureB y then some (.laddr y) else none := rfl
end
attribute [simp] optEval sSlice sIndexAddr xop sClear sBuild isArr sField u8sOf bytesOf sConvStr sRow
section
variable {E : Env} {N z : Nat} {Q : Post} {K : Fr → Store → Prop} {fr : Fr} {σ σ' : Store} {os : List POp} {k : List It} {t : Tmp} {v xv yv : PV} {U : TypeId} {x y : Operand}
theorem iRG (h : RG E Q K os fr σ) : RG E Q K os fr σ := h
theorem iT {c : Code} (h : T E N z c Q fr σ) : T E N z c Q fr σ := h
theorem iSP {e : Ex} (h : SP E N z Q k e fr σ) : SP E N z Q k e fr σ := h
theorem iDP {base i : Nat} {qs : List DOp} {acc : List (Nat × List Nat × Option Nat)} (h : DP E base K i qs fr σ acc) : DP E base K i qs fr σ acc := h
theorem iA {d : Option Tmp} {re : Re} (h : afterRG E Q K os d fr re σ) : afterRG E Q K os d fr re σ := h
theorem o_op {op : Op} (h1 : isCall op = none) (h2 : nilCmp E op fr σ = none) (h : aop E op fr σ = some (v, σ')) (hk : RG E Q K os ((t, v) :: fr) σ') : RG E Q K (⟨none, some t, op⟩ :: os) fr σ := by
 rw [RG_aop h1 h2, h]; exact hk
theorem o_op0 {op : Op} (h1 : isCall op = none) (h2 : nilCmp E op fr σ = none) (h : aop E op fr σ = some (v, σ')) (hk : RG E Q K os fr σ') : RG E Q K (⟨none, none, op⟩ :: os) fr σ := by
 rw [RG_aop h1 h2, h]; exact hk
theorem o_move (h : Fr.eval fr x = some v) (hk : RG E Q K os ((t, v) :: fr) σ) : RG E Q K (⟨none, some t, .move x⟩ :: os) fr σ := o_op rfl rfl (by simp only [aop, sop, h, Option.map_some]) hk
theorem o_assign (h : Fr.eval fr x = some v) (hk : RG E Q K os ((t, v) :: fr) σ) : RG E Q K (⟨none, some t, .assign x⟩ :: os) fr σ := o_op rfl rfl (by simp only [aop, sop, h, Option.map_some]) hk
theorem o_load (h : Fr.eval fr x = some xv) (hT : E.kn U = true) (hl : sLoad E U xv σ = some v) (hk : RG E Q K os ((t, v) :: fr) σ) : RG E Q K (⟨none, some t, .load U x⟩ :: os) fr σ :=
 o_op rfl rfl (by simp only [aop, sop, h, hT, hl, if_true, Option.map_some]) hk
theorem o_store (h : Fr.eval fr x = some xv) (hy : Fr.eval fr y = some yv) (hT : E.kn U = true) (hl : sStore E U xv yv σ = some σ') (hk : RG E Q K os fr σ') : RG E Q K (⟨none, none, .store U x y⟩ :: os) fr σ :=
 o_op0 (v := .undef) rfl rfl (by simp only [aop, sop, h, hy, hT, hl, if_true, Option.map_some]) hk
theorem o_fa {n : Nat} (h : Fr.eval fr x = some xv) (hT : E.kn U = true) (ht : E.td U = .st) (hl : sFieldAddr E U xv n σ = some v) (hk : RG E Q K os ((t, v) :: fr) σ) : RG E Q K (⟨none, some t, .fieldAddr U x n⟩ :: os) fr σ :=
 o_op rfl rfl (by simp only [aop, sop, h, hT, ht, hl, and_self, if_true, Option.map_some]) hk
theorem o_bin {o : BinOp} {yT : TypeId} (h2 : nilCmp E (.binOp o U x y yT) fr σ = none) (h : Fr.eval fr x = some xv) (hy : Fr.eval fr y = some yv) (hT : E.kn U = true) (hl : sBin E o U xv yv = some v) (hk : RG E Q K os ((t, v) :: fr) σ) :
  RG E Q K (⟨none, some t, .binOp o U x y yT⟩ :: os) fr σ := o_op rfl h2 (by simp only [aop, sop, h, hy, hT, hl, if_true, Option.map_some]) hk
theorem o_nilCheck (h : Fr.eval fr x = some v) (hl : sNilCheck v σ = true) (hk : RG E Q K os ((t, v) :: fr) σ) : RG E Q K (⟨none, some t, .nilCheck x⟩ :: os) fr σ :=
 o_op rfl rfl (by simp only [aop, sop, h, hl, if_true]) hk
theorem o_call {d : Option Tmp} {c : Call} {f : Operand} {g : FuncId} {vs : List PV} (hc : c.callee = .value f) (h : sCallee E fr c = some (g, vs)) (hk : C E g vs σ (afterRG E Q K os d fr)) : RG E Q K (⟨none, d, .call c⟩ :: os) fr σ := by
 rw [RG_call hc, h]; exact hk
theorem o_nil {d : Option Tmp} {op : Op} {bs : List PV} (h1 : isCall op = none) (h2 : nilCmp E op fr σ = some bs) (hk : ∀ b ∈ bs, RG E Q K os (Fr.put fr d b) σ) : RG E Q K (⟨none, d, op⟩ :: os) fr σ := by
 rw [RG_plain h1, h2]; exact hk
theorem o_nil1 {op : Op} {b : PV} (h1 : isCall op = none) (h2 : nilCmp E op fr σ = some [b]) (hk : RG E Q K os ((t, b) :: fr) σ) : RG E Q K (⟨none, some t, op⟩ :: os) fr σ := o_nil h1 h2 (by simpa [Fr.put] using hk)
theorem o_nil2 {op : Op} {b c : PV} (h1 : isCall op = none) (h2 : nilCmp E op fr σ = some [b, c]) (hb : RG E Q K os ((t, b) :: fr) σ) (hc : RG E Q K os ((t, c) :: fr) σ) : RG E Q K (⟨none, some t, op⟩ :: os) fr σ := o_nil h1 h2 (by simpa [Fr.put] using ⟨hb, hc⟩)
theorem a_ret (h : RG E Q K os ((t, v) :: fr) σ) : afterRG E Q K os (some t) fr (.ret v) σ := h
theorem a_ret0 (h : RG E Q K os fr σ) : afterRG E Q K os none fr (.ret v) σ := h
theorem g_run {d : Option Tmp} {op : Op} {w : Bool} (h : Fr.get fr t = some (.bool w)) (hk : RG E Q K (⟨none, d, op⟩ :: os) fr σ) : RG E Q K (⟨some (some t, w), d, op⟩ :: os) fr σ := by
 rw [RG_skip (b := true) rfl, h]; simp only [if_true]; exact hk
theorem g_not {op : Op} {d : Tmp} {w : Bool} (h : Fr.get fr t = some (.bool !w)) (hk : RG E Q K os ((d, .tup []) :: fr) σ) : RG E Q K (⟨some (some t, w), some d, op⟩ :: os) fr σ := by
 rw [RG_skip (b := true) rfl, h]; cases w <;> exact hk
theorem g_skip {op : Op} {d : Tmp} {w : Bool} (h : Fr.get fr t = some (.tup [])) (hk : RG E Q K os ((d, .tup []) :: fr) σ) : RG E Q K (⟨some (some t, w), some d, op⟩ :: os) fr σ := by
 rw [RG_skip (b := true) rfl, h]; exact hk
theorem g_if {d : Option Tmp} {op : Op} {w : Bool} (b : Bool) (h : Fr.get fr t = some (.bool b)) (h1 : b = w → RG E Q K (⟨none, d, op⟩ :: os) fr σ) (h2 : b = (!w) → RG E Q K os (Fr.put fr d (.tup [])) σ) : RG E Q K (⟨some (some t, w), d, op⟩ :: os) fr σ := by
 rw [RG_skip (b := true) rfl, h]
 simp only
 split
 ·exact h1 ‹_›
 ·exact h2 (by cases b <;> cases w <;> simp_all)
theorem s_ift {c d : Code} (h : Fr.get fr t = some (.bool true)) (hk : T E N z c Q fr σ) : T E N z (.cond (.tmp t) c d) Q fr σ := T_cond h (fun _ => hk) (by simp)
theorem s_iff {c d : Code} (h : Fr.get fr t = some (.bool false)) (hk : T E N z d Q fr σ) : T E N z (.cond (.tmp t) c d) Q fr σ := T_cond h (by simp) (fun _ => hk)
theorem s_body' {n' : FuncId} {fn : Func} (hfn : E.P.funcs[n']? = some fn) {c : Code} {args : List PV} {R : Re → Store → Prop} {n l : Nat} {rs : List ResultVar} {fr0 : Fr} (O : E.OK) (hb : fn.body = some c) (hn : fn.ntmps = n) (hr : fn.results.toList = rs) (ha : Fr.args 0 args = fr0) (hl : Nat.ble args.length n = true) (hz : σ.length = l)
  (h : ∀ R', IsR R' R → T E n l c (SP E n l (bodyQ E rs R') []) fr0 σ) : C E n' args σ R := by
 subst hn hr ha hz
 exact s_body O hfn hb (Nat.le_of_ble_eq_true hl) h
mutual
def nz : PV → PV
 | .nils => .lit []
 | .agg t fs => .agg t (nzL fs)
 | .tup vs => .tup (nzL vs)
 | x => x
def nzL : List PV → List PV
 | [] => []
 | x :: xs => nz x :: nzL xs
end
theorem fits_nz {U : TypeId} {x : PV} (h : fits E U x = true) : fits E U (nz x) = true := by cases x <;> simp_all [nz, fits]
mutual
theorem VC_nz {c : Cx} : ∀ {x : PV} {cs : List Value}, VC E c x cs → VC E c (nz x) cs
 | _, _, .bool b => .bool b
 | _, _, .int k n => .int k n
 | _, _, .str s => .str s
 | _, _, .nilp => .nilp
 | _, _, .ptr b g i p v h1 hb hle h => .ptr b g i p v h1 hb hle h
 | _, _, .laddr x k o cs ca t fz hI hw hx hwin => .laddr x k o cs ca t fz hI hw hx hwin
 | _, _, .nils a => .lit0 a 0
 | _, _, .lit0 a n => .lit0 a n
 | _, _, .lit xs T k o cap cs ca t fz hI hw hx hwin hcap => .lit xs T k o cap cs ca t fz hI hw hx hwin hcap
 | _, _, .ref b g off len v h1 hb hle h => .ref b g off len v h1 hb hle h
 | _, _, .nilm => .nilm
 | _, _, .map b v h1 hb h => .map b v h1 hb h
 | _, _, .nilf => .nilf
 | _, _, .fn f first cap vs us h1 h2 => .fn f first cap vs us h1 h2
 | _, _, .nili => .nili
 | _, _, .ifaceA t u fs cs h => .ifaceA t u fs cs h
 | _, _, .ifaceS t x v h1 h => .ifaceS t x v h1 h
 | _, _, .agg t fs cs h => .agg t _ cs (VCs_nz h)
theorem VCs_nz {c : Cx} : ∀ {Ts : List TypeId} {xs : List PV} {cs : List Value}, VCs E c Ts xs cs → VCs E c Ts (nzL xs) cs
 | _, _, _, .nil => .nil
 | _, _, _, .cons hf h hs => .cons (fits_nz hf) (VC_nz h) (VCs_nz hs)
end
theorem nz_agg {x : PV} (hn : ∀ t fs, x ≠ .agg t fs) : ∀ t fs, nz x ≠ .agg t fs := by
 intro t fs
 cases x <;> simp [nz]
 exact absurd rfl (hn _ _)
theorem VL_nz {c : Cx} : ∀ {xs : List PV} {vs : List Value}, VL E c xs vs → VL E c (nzL xs) vs
 | _, _, .nil => .nil
 | _, _, .undef hs => .undef (VL_nz hs)
 | _, _, .one h1 hn h hs => .one h1 (nz_agg hn) (VC_nz h) (VL_nz hs)
 | _, _, .agg h hs => .agg (VC_nz h) (VL_nz hs)
 | _, _, .tup h hs => .tup (VL_nz h) (VL_nz hs)
theorem c_nz {f : FuncId} {args args' : List PV} {R : Re → Store → Prop} (ha : nzL args = args') (h : C E f args' σ R) : C E f args σ R := fun cx vs hn hv => h cx vs hn (ha ▸ VL_nz hv)
def unw : List It → Ex → List It × Ex
 | [], e => ([], e)
 | .endb _ :: k, .normal => unw k .normal
 | .endb i :: k, .exit j => if j = i then unw k .normal else unw k (.exit j)
 | .endb _ :: k, e => unw k e
 | .code c :: k, .normal => (.code c :: k, .normal)
 | .head c :: k, .normal => (.head c :: k, .normal)
 | .code _ :: k, e => unw k e
 | .head _ :: k, e => unw k e
theorem SP_unw : ∀ (k : List It) (e : Ex), SP E N z Q (unw k e).1 (unw k e).2 fr σ → SP E N z Q k e fr σ
 | [], e, h => h
 | .endb i :: k, e, h => by
  cases e with
  | normal => exact SP_unw k .normal h
  | exit j =>
   simp only [unw] at h
   rw [SP_endb_exit]
   split
   ·rename_i hi; rw [if_pos hi] at h; exact SP_unw k .normal h
   ·rename_i hi; rw [if_neg hi] at h; exact SP_unw k (.exit j) h
  | ret => exact SP_unw k .ret h
  | pan v => exact SP_unw k (.pan v) h
 | .code c :: k, e, h => by
  cases e with
  | normal => exact h
  | exit j => exact SP_unw k (.exit j) h
  | ret => exact SP_unw k .ret h
  | pan v => exact SP_unw k (.pan v) h
 | .head c :: k, e, h => by
  cases e with
  | normal => exact h
  | exit j => exact SP_unw k (.exit j) h
  | ret => exact SP_unw k .ret h
  | pan v => exact SP_unw k (.pan v) h
theorem w_end {k' : List It} {e' : Ex} {Q' : Post} (hu : unw k .normal = (k', e')) (h : SP E N z Q k' e' fr σ) : RG E Q' (SP E N z Q k .normal) [] fr σ := SP_unw k .normal (by rw [hu]; exact h)
theorem w_skip {k' : List It} {e' : Ex} (hu : unw k .normal = (k', e')) (h : SP E N z Q k' e' fr σ) : T E N z .skip (SP E N z Q k) fr σ := T_skip (SP_unw k .normal (by rw [hu]; exact h))
theorem w_ret {k' : List It} {e' : Ex} (hu : unw k .ret = (k', e')) (h : SP E N z Q k' e' fr σ) : T E N z .ret (SP E N z Q k) fr σ := T_ret (SP_unw k .ret (by rw [hu]; exact h))
theorem w_exit {k' : List It} {e' : Ex} {i : Nat} (hu : unw k (.exit i) = (k', e')) (h : SP E N z Q k' e' fr σ) : T E N z (.exit i) (SP E N z Q k) fr σ := T_exit (SP_unw k (.exit i) (by rw [hu]; exact h))
theorem w_loop {c : Code} (h : ∀ c', Is c' c → T E N z c (SP E N z Q (.head c' :: k)) fr σ) : T E N z (.loop c) (SP E N z Q k) fr σ := T_loop (TL_round (h c rfl))
theorem w_again {c' c : Code} (hc : Is c' c) (h : T E N z c (SP E N z Q (.head c' :: k)) fr σ) : SP E N z Q (.head c' :: k) .normal fr σ := s_round hc h
theorem r_fin {rs : List ResultVar} {R : Re → Store → Prop} {xs : List PV} (h : sRes E fr σ rs = some xs) (hv : oneOf xs = v) (hk : R (.ret v) σ) : SP E N z (bodyQ E rs R) [] .ret fr σ := ⟨xs, h, by rw [hv]; exact hk⟩
theorem n_fin {rs : List ResultVar} {R : Re → Store → Prop} {xs : List PV} (h : sRes E fr σ rs = some xs) (hv : oneOf xs = v) (hk : R (.ret v) σ) : SP E N z (bodyQ E rs R) [] .normal fr σ := ⟨xs, h, by rw [hv]; exact hk⟩
theorem f_ret {R : Re → Store → Prop} {y : PV} (h : frz σ' 6 v = some y) (hk : R (.ret y) σ) : frzRe σ R (.ret v) σ' := by
 simp only [frzRe, h]; exact hk
theorem s_reg' (O : E.OK) {id : Nat} {ops : Array Oper} {ps : List POp} (hd : (ops.toList.all fun o => match o.dst with | some t => decide (t < N) | none => true) = true) (hp : prep ops ops.toList = ps) (h : RG E (SP E N z Q k) (SP E N z Q k .normal) ps fr σ) : T E N z (.region id ops false) (SP E N z Q k) fr σ := by
 subst hp; exact s_reg O hd h
theorem s_draw' (O : E.OK) (hmix : E.P.follows .mixedOrders = true) {id : Nat} {ops : Array Oper} {qs : List DOp} {ps : List POp} {τ : Store} (tab : Tab) (m : Nat) (hchk : chkDraw ops tab m N = true) (hq : prepD ops tab 0 (ops.toList.take m) = qs) (hp : prep ops (ops.toList.drop m) = ps) (hτ : σ ++ List.replicate ops.size none = τ)
  (h : DP E σ.length (RG E (SP E N z Q k) (SP E N z Q k .normal) ps) 0 qs fr τ []) : T E N z (.region id ops true) (SP E N z Q k) fr σ := by
 subst hq hp hτ; exact s_draw O hmix tab m hchk h
theorem d_op {base i sl : Nat} {pr : List Nat} {acc acc' : List (Nat × List Nat × Option Nat)} {op : Op} {qs : List DOp} (h1 : isCall op = none) (h : sop E op fr σ (base + sl) = some (v, σ')) (hn : noC pr acc (foot op fr) (wid op fr (base + sl) v) = true) (ha : accAdd i (foot op fr) (wid op fr (base + sl) v) acc = acc')
  (hk : DP E base K (i + 1) qs ((t, v) :: fr) σ' acc') : DP E base K i (⟨⟨none, some t, op⟩, pr, sl⟩ :: qs) fr σ acc := by
 rw [DP_op h1, h]; subst ha; exact ⟨hn, hk⟩
theorem d_op0 {base i sl : Nat} {pr : List Nat} {acc acc' : List (Nat × List Nat × Option Nat)} {op : Op} {qs : List DOp} (h1 : isCall op = none) (h : sop E op fr σ (base + sl) = some (v, σ')) (hn : noC pr acc (foot op fr) (wid op fr (base + sl) v) = true) (ha : accAdd i (foot op fr) (wid op fr (base + sl) v) acc = acc')
  (hk : DP E base K (i + 1) qs fr σ' acc') : DP E base K i (⟨⟨none, none, op⟩, pr, sl⟩ :: qs) fr σ acc := by
 rw [DP_op h1, h]; subst ha; exact ⟨hn, hk⟩
theorem d_move {base i sl : Nat} {pr : List Nat} {acc : List (Nat × List Nat × Option Nat)} {qs : List DOp} (h : Fr.eval fr x = some v) (hk : DP E base K (i + 1) qs ((t, v) :: fr) σ acc) : DP E base K i (⟨⟨none, some t, .move x⟩, pr, sl⟩ :: qs) fr σ acc := by
 have hf : foot (.move x) fr = [] := rfl
 refine d_op (v := v) (σ' := σ) rfl (by simp only [sop, h, Option.map_some]) ?_ (by rw [hf]; rfl) hk
 rw [hf]
 simp only [wid, noC, clear, List.all_eq_true]
 intro p hp
 cases p.2.2 <;> simp
theorem d_call {base i sl : Nat} {pr : List Nat} {acc acc' : List (Nat × List Nat × Option Nat)} {c : Call} {f : Operand} {g : FuncId} {vs : List PV} {qs : List DOp} (rd : List Nat) (hc : c.callee = .value f) (h : sCallee E fr c = some (g, vs)) (hn : noC pr acc rd none = true) (ha : accAdd i rd none acc = acc')
  (hC : ∀ τ, (∀ b ∈ rd, Store.at τ b = Store.at σ b) → C E g vs τ fun re τ' => re = .ret v ∧ τ' = τ) (hk : DP E base K (i + 1) qs ((t, v) :: fr) σ acc') : DP E base K i (⟨⟨none, some t, .call c⟩, pr, sl⟩ :: qs) fr σ acc := by
 rw [DP_call hc, h]; subst ha; exact ⟨rd, v, hn, hC, hk⟩
theorem d_end {base i : Nat} {acc : List (Nat × List Nat × Option Nat)} (h : K fr σ) : DP E base K i [] fr σ acc := by rw [DP_nil]; exact h
theorem dg_run {base i sl : Nat} {pr : List Nat} {acc : List (Nat × List Nat × Option Nat)} {d : Option Tmp} {op : Op} {w : Bool} {qs : List DOp} (h : Fr.get fr t = some (.bool w)) (hk : DP E base K i (⟨⟨none, d, op⟩, pr, sl⟩ :: qs) fr σ acc) : DP E base K i (⟨⟨some (some t, w), d, op⟩, pr, sl⟩ :: qs) fr σ acc := by
 rw [DP_skip (b := true) rfl, h]; simp only [if_true]; exact hk
theorem dg_not {base i sl : Nat} {pr : List Nat} {acc : List (Nat × List Nat × Option Nat)} {d : Tmp} {op : Op} {w : Bool} {qs : List DOp} (h : Fr.get fr t = some (.bool !w)) (hk : DP E base K (i + 1) qs ((d, .tup []) :: fr) σ acc) : DP E base K i (⟨⟨some (some t, w), some d, op⟩, pr, sl⟩ :: qs) fr σ acc := by
 rw [DP_skip (b := true) rfl, h]; cases w <;> exact hk
theorem dg_skip {base i sl : Nat} {pr : List Nat} {acc : List (Nat × List Nat × Option Nat)} {d : Tmp} {op : Op} {w : Bool} {qs : List DOp} (h : Fr.get fr t = some (.tup [])) (hk : DP E base K (i + 1) qs ((d, .tup []) :: fr) σ acc) : DP E base K i (⟨⟨some (some t, w), some d, op⟩, pr, sl⟩ :: qs) fr σ acc := by
 rw [DP_skip (b := true) rfl, h]; exact hk
theorem dg_if {base i sl : Nat} {pr : List Nat} {acc : List (Nat × List Nat × Option Nat)} {d : Option Tmp} {op : Op} {w : Bool} {qs : List DOp} (b : Bool) (h : Fr.get fr t = some (.bool b)) (h1 : b = w → DP E base K i (⟨⟨none, d, op⟩, pr, sl⟩ :: qs) fr σ acc)
  (h2 : b = (!w) → DP E base K (i + 1) qs (Fr.put fr d (.tup [])) σ acc) : DP E base K i (⟨⟨some (some t, w), d, op⟩, pr, sl⟩ :: qs) fr σ acc := by
 rw [DP_skip (b := true) rfl, h]
 simp only
 split
 ·exact h1 ‹_›
 ·exact h2 (by cases b <;> cases w <;> simp_all)
end
def edgesOf (os : List Oper) : List (List Nat) := os.map fun o => (o.after.toList.filter (Region.binds .any)).map (·.on)
def rdy (es : List (List Nat)) (l : List Bool) : List Nat := (List.range es.length).filter fun i => !(l.getD i true) && (es.getD i []).all fun j => l.getD j false
def RB (E : Env) (Q : Post) (ps : List POp) (es : List (List Nat)) (K : Fr → Store → Prop) : Nat → List Bool → Fr → Store → Prop
 | 0, l, fr, σ => rdy es l = [] ∧ K fr σ
 | n + 1, l, fr, σ => (rdy es l = [] → K fr σ) ∧ ∀ i ∈ rdy es l, ∀ p, ps[i]? = some p → RG E Q (RB E Q ps es K n (l.set i true)) [p] fr σ
section
variable {E : Env} {N z : Nat} {Q : Post} {K : Fr → Store → Prop} {fr : Fr} {σ : Store} {ps : List POp} {es : List (List Nat)} {l : List Bool} {n i j m : Nat} {o o' o'' : POp}
theorem ra_one (hr : rdy es l = [i]) (ho : ps[i]? = some o) (h : RG E Q (RB E Q ps es K n (l.set i true)) [o] fr σ) : RB E Q ps es K (n + 1) l fr σ := by
 refine ⟨fun he => (by rw [hr] at he; cases he), fun i' hi' o' ho' => ?_⟩
 rw [hr] at hi'
 simp only [List.mem_singleton] at hi'; subst hi'
 rw [ho] at ho'; cases ho'; exact h
theorem ra_next {Q' : Post} (h : RB E Q ps es K n l fr σ) : RG E Q' (RB E Q ps es K n l) [] fr σ := h
theorem ra_ends {Q' : Post} {k : List It} {k' : List It} {e' : Ex} (hr : rdy es l = []) (hu : unw k .normal = (k', e')) (h : SP E N z Q' k' e' fr σ) : RB E Q ps es (SP E N z Q' k .normal) n l fr σ := by
 have hk := SP_unw (E := E) (N := N) (z := z) (Q := Q') (fr := fr) (σ := σ) k .normal (by rw [hu]; exact h)
 cases n with
 | zero => exact ⟨hr, hk⟩
 | succ n => exact ⟨fun _ => hk, fun i hi => by rw [hr] at hi; cases hi⟩
theorem iRA (h : RB E Q ps es K n l fr σ) : RB E Q ps es K n l fr σ := h
end
attribute [simp] edgesOf Region.binds
section
variable {E : Env} {N z : Nat} {Q : Post} {fr fr' : Fr} {σ σ' : Store} {k : List It} {c : Code}
theorem w_trim (n : Nat) (ts : List Nat) (hf : Fr.keep ts fr = fr') (hσ : σ.take n = σ') (hz : Nat.ble z n = true) (hb : (belowFr n fr' && belowStore n σ') = true) (h : TL E N z c Q fr' σ') : TL E N z c Q fr σ := by
 simp only [Bool.and_eq_true] at hb
 exact TL_fall n ts (Nat.le_of_ble_eq_true hz) hf hb.1 hσ hb.2 h
theorem w_back (n : Nat) (ts : List Nat) (hf : Fr.keep ts fr = fr') (hσ : σ.take n = σ') (hz : Nat.ble z n = true) (hb : (belowFr n fr' && belowStore n σ') = true) (h : TL E N z c (SP E N z Q k) fr' σ') : SP E N z Q (.head c :: k) .normal fr σ :=
 w_trim n ts hf hσ hz hb h
theorem s_loopn (n : Nat) (S : Nat → Fr → Store → Prop) (h : ∀ j fr σ, j ≤ n → S j fr σ → (j < n → ∀ fr σ, S (j + 1) fr σ → TL E N z c Q fr σ) → TL E N z c Q fr σ) (h0 : S 0 fr σ) : TL E N z c Q fr σ := by
 have key : ∀ m j fr σ, j + m = n → S j fr σ → TL E N z c Q fr σ := by
  intro m
  induction m with
  | zero => intro j fr σ hj hs; exact h j fr σ (by omega) hs (fun hlt => by omega)
  | succ m ih => intro j fr σ hj hs; exact h j fr σ (by omega) hs (fun _ fr σ hs' => ih (j + 1) fr σ (by omega) hs')
 exact key n 0 fr σ (by omega) h0
end
attribute [simp] nz nzL Fr.keep belowFr belowStore belowBlk belowB belowL
@[simp] theorem belowL_map {α : Type} {f : α → PV} {n : Nat} (h : ∀ a, pureB (f a) = true) (l : List α) : belowL n (l.map f) = true := belowL_of_pure n _ (pureL_map f h l)
def gt {α : Type} [Inhabited α] (l : List α) (j : Nat) : α := l.getD j default
theorem gq {α : Type} [Inhabited α] {l : List α} {j : Nat} (h : j < l.length) : l[j]? = some (gt l j) := by
 simp [gt, h]
def psum {α : Type} (f : α → Int) (l : List α) (j : Nat) : Int := ((l.take j).map f).sum
def SD (E : Env) (N : Nat) (Q : PostD) : List It → PostD
 | [] => Q
 | .code c :: k => PostD.seq (TZ E N c (SD E N Q k)) (SD E N Q k)
 | .endb id :: k => PostD.block id (SD E N Q k)
 | .head _ :: k => SD E N Q k
section
variable {E : Env} {N z : Nat} {Q : PostD} {ds : List DV} {fr : Fr} {σ : Store} {k : List It}
def YA (E : Env) (l b n z : Nat) (ps : Array Tmp) (as bd : Code) (R : Re → Store → Prop) : Post := Post.seq (fun fr1 σ1 => ∃ pend' fr', Store.at σ1 b = some (.loop l .ready pend' n fr' ps as bd) ∧ T E n z bd (roundQ l b R) fr1 (σ1.set b (some (.loop l .busy pend' n fr' ps as bd)))) (fun _ _ _ => False)
end
section
variable {E : Env} {N : Nat} {Q : Post} {fr : Fr} {σ : Store}
structure Hid {α : Type} (x y : α) : Prop where
 eq : x = y
theorem j4 {z : Nat} {a b c e d : Code} {Q : Post} (P : Fr → Store → Prop) (h1 : ∀ fr' σ', P fr' σ' → T E N z d Q fr' σ') (h2 : ∀ y, PLift (∀ fr' σ', P fr' σ' → T E N z y Q fr' σ') → T E N z (a.seq (b.seq (c.seq (e.seq y)))) Q fr σ) : T E N z (a.seq (b.seq (c.seq (e.seq d)))) Q fr σ := h2 d ⟨h1⟩
theorem j5 {z : Nat} {a b c e f d : Code} {Q : Post} (P : Fr → Store → Prop) (h1 : ∀ fr' σ', P fr' σ' → T E N z d Q fr' σ') (h2 : ∀ y, PLift (∀ fr' σ', P fr' σ' → T E N z y Q fr' σ') → T E N z (a.seq (b.seq (c.seq (e.seq (f.seq y))))) Q fr σ) : T E N z (a.seq (b.seq (c.seq (e.seq (f.seq d))))) Q fr σ := h2 d ⟨h1⟩
theorem j3 {z : Nat} {a b c d : Code} {Q : Post} (P : Fr → Store → Prop) (h1 : ∀ fr' σ', P fr' σ' → T E N z d Q fr' σ') (h2 : ∀ y, PLift (∀ fr' σ', P fr' σ' → T E N z y Q fr' σ') → T E N z (a.seq (b.seq (c.seq y))) Q fr σ) : T E N z (a.seq (b.seq (c.seq d))) Q fr σ := h2 d ⟨h1⟩
theorem j1 {z : Nat} {a d : Code} {Q : Post} (P : Fr → Store → Prop) (h1 : ∀ fr' σ', P fr' σ' → T E N z d Q fr' σ') (h2 : ∀ y, PLift (∀ fr' σ', P fr' σ' → T E N z y Q fr' σ') → T E N z (a.seq y) Q fr σ) : T E N z (a.seq d) Q fr σ := h2 d ⟨h1⟩
theorem j2 {z : Nat} {a b d : Code} {Q : Post} (P : Fr → Store → Prop) (h1 : ∀ fr' σ', P fr' σ' → T E N z d Q fr' σ') (h2 : ∀ y, PLift (∀ fr' σ', P fr' σ' → T E N z y Q fr' σ') → T E N z (a.seq (b.seq y)) Q fr σ) : T E N z (a.seq (b.seq d)) Q fr σ := h2 d ⟨h1⟩
end
@[simp] theorem wf_i64 (n : Int) : (Lit.int .i64 n).wf = (decide (-9223372036854775808 ≤ n) && decide (n ≤ 9223372036854775807)) := rfl
@[simp] theorem ren_frz_lit (r : Nat → Nat) (xs : List PV) : ren r (.lit xs) = .lit xs := rfl
attribute [simp] ren renL allB allL renBlk allBlk renStore allStore ren_pure allB_pure
attribute [simp] Lit.sameKey Lit.before mput mins mdel mget putsF
section
variable {E : Env} {N z : Nat} {Q : Post} {fr : Fr} {σ : Store}
theorem T_renz (O : E.OK) {c : Code} {fr' : Fr} {σ' : Store} (ids ts : List Nat) (hnd : ids.Nodup) (hlen : σ'.length = ids.length) (hz : z ≤ ids.length) (hid : ∀ i, i < z → nth ids i = i) (hfr : Fr.keep ts fr = fr'.map fun p => (p.1, ren (nth ids) p.2)) (hb : (fr'.all fun p => allB (fun b => decide (b < ids.length)) p.2) = true)
  (hall : allStore (fun b => decide (b < ids.length)) σ' = true) (hat : ∀ i, i < ids.length → (σ[nth ids i]?).join = ((renStore (nth ids) σ')[i]?).join) (h : T E N z c Q fr' σ') : T E N z c Q fr σ := fun cx a ht hn hf => by
 have hinv : ∀ b, decide (b < ids.length) = true → ids.idxOf (nth ids b) = b := fun b hb => idx_nth hnd (by simpa using hb)
 have hmem : ∀ b, decide (b < ids.length) = true → (fun b => decide (b ∈ ids)) (nth ids b) = true := fun b hb => by simpa using nth_mem (by simpa using hb)
 have hblk0 : ∀ (i : Nat) (blk : Blk), σ'[i]? = some (some blk) → allBlk (fun b => decide (b < ids.length)) blk = true := fun i blk hi => by
  have := List.all_eq_true.1 hall _ (List.mem_of_getElem? hi); exact this
 have hblkσ : ∀ (i : Nat) (blk : Blk), σ'[i]? = some (some blk) → σ[nth ids i]? = some (some (renBlk (nth ids) blk)) := fun i blk hi => by
  have hlt : i < ids.length := by rw [← hlen]; exact getElem?_lt hi
  have := hat i hlt
  simp only [renStore, List.getElem?_map, hi, Option.map_some, Option.join_some] at this
  exact Option.join_eq_some_iff.1 this
 let c0 : Cx := { cx with mu := fun i => if i < ids.length then cx.mu (nth ids i) else none, A := fun i => i < ids.length ∧ cx.A (nth ids i) }
 have hmu0 : ∀ i m, c0.mu i = some m → i < ids.length ∧ cx.mu (nth ids i) = some m := fun i m hm => by
  simp only [c0] at hm
  split at hm
  ·rename_i hi; exact ⟨hi, hm⟩
  ·simp at hm
 have hmov : Moves cx c0 (fun b => ids.idxOf b) (fun b => decide (b ∈ ids)) := ⟨fun _ h => h, fun _ _ => rfl, fun b hb hA => by
   have hb : b ∈ ids := by simpa using hb
   exact ⟨List.idxOf_lt_length_iff.2 hb, by rw [nth_idx hb]; exact hA⟩, fun b hb hA m hm => by
   have hb : b ∈ ids := by simpa using hb
   have := (hmu0 _ m hm).2; rw [nth_idx hb] at this; exact this⟩
 have hn0 : Now E c0 σ' := by
  refine ⟨by show cx.top ≤ _; omega, fun b hb => by rw [hlen]; exact hb.1, hn.IF, hn.imm, fun i m hm => ?_, fun i blk hi => ?_, fun i i' m m' hi hi' he => ?_, fun i m hi => hn.base _ m (hmu0 i m hi).2⟩
  ·obtain ⟨hi, hm'⟩ := hmu0 i m hm
   obtain ⟨blk, k1, k2, k3, k4⟩ := hn.dom _ m hm'
   have e0 := hat i hi
   rw [k1] at e0
   obtain ⟨ob, hob⟩ : ∃ ob, σ'[i]? = some ob := ⟨σ'[i]'(by rw [hlen]; exact hi), by rw [List.getElem?_eq_getElem]⟩
   simp only [renStore, List.getElem?_map, hob, Option.map_some, Option.join_some] at e0
   cases ob with
   | none => simp at e0
   | some blk0 =>
    simp only [Option.map_some, Option.some.injEq] at e0; subst e0
    refine ⟨blk0, hob, k2, k3, ?_⟩
    have := k4.ren (c' := c0) (allBlk_ren hmem blk0 (hblk0 i blk0 hob)) hmov rfl
    rw [renBlk_renBlk hinv blk0 (hblk0 i blk0 hob)] at this
    exact this
  ·have hi' := hblkσ i blk hi
   have hlt : i < ids.length := by rw [← hlen]; exact getElem?_lt hi
   obtain ⟨k1, m, k2⟩ := hn.live _ _ hi'
   exact ⟨⟨hlt, k1⟩, m, by simp only [c0, if_pos hlt]; exact k2⟩
  ·obtain ⟨a1, a2⟩ := hmu0 i m hi
   obtain ⟨b1, b2⟩ := hmu0 i' m' hi'
   have := hn.inj _ _ _ _ a2 b2 he
   rw [← idx_nth hnd a1, ← idx_nth hnd b1, this]
 have hf0 := hf.keep ts
 have hget : ∀ (l : Fr) (t : Nat) (x : PV), Fr.get l t = some x → Fr.get (l.map fun p => (p.1, ren (nth ids) p.2)) t = some (ren (nth ids) x) := fun l => by
  induction l with
  | nil => intro t x h; simp [Fr.get] at h
  | cons p l ih =>
   intro t x h
   obtain ⟨k, y⟩ := p
   simp only [List.map_cons, Fr.get] at h ⊢
   split
   ·rename_i e; rw [if_pos e] at h; simp only [Option.some.injEq] at h; subst h; rfl
   ·rename_i e; rw [if_neg e] at h; exact ih t x h
 have hf' : FR E c0 N fr' a.tmps := ⟨hf0.1, fun t x hx => by
  have h1 := hget fr' t x hx
  rw [← hfr] at h1
  obtain ⟨h2, h3⟩ := hf0.2 t _ h1
  refine ⟨h2, ?_⟩
  have hbx := List.all_eq_true.1 hb (t, x) (Fr.get_mem hx)
  have hargs : allL (fun b => decide (b < ids.length)) [x] = true := by simpa [allL] using hbx
  have h3 : VL E cx (renL (nth ids) [x]) [a.tmps.getD t undef] := h3
  have := VL.ren h3 (allL_renL hmem [x] hargs) hmov
  rw [renL_renL hinv [x] hargs] at this; exact this⟩
 have hs : Step (cx.below z) c0 := ⟨⟨fun _ h => h, fun _ _ => rfl, fun b hb => ⟨Nat.lt_of_lt_of_le hb.2 hz, by rw [hid b hb.2]; exact hb.1⟩, fun b hb m hm => by
   have := (hmu0 b m hm).2; rw [hid b hb.2] at this; exact ⟨m, this, Nat.le_refl _, fun _ => rfl⟩⟩, fun _ h => h, fun _ _ => rfl, fun _ h => .inl h,
  fun b m h => .inr ⟨_, m, (hmu0 b m h).2, rfl⟩, rfl, fun b hb => by
   rcases Nat.lt_or_ge b z with h1 | h1
   ·have := hb.2; rw [hid b h1] at this; exact .inl ⟨this, h1⟩
   ·exact .inr (Nat.le_trans ht h1), Nat.le_refl _, rfl, rfl, rfl⟩
 exact wr_mono (h c0 a ht hn0 hf') fun e a w => Lift.step hs
theorem renz_id {ids : List Nat} (h : ids.take z = List.range z) : ∀ i, i < z → nth ids i = i := fun i hi => by
 have h1 := congrArg (fun l => l[i]?) h
 simp only [List.getElem?_take, if_pos hi, List.getElem?_range hi] at h1
 simp [nth, h1]
theorem j7 {a b c e f g h d : Code} (P : Fr → Store → Prop) (h1 : ∀ fr' σ', P fr' σ' → T E N z d Q fr' σ') (h2 : ∀ y, PLift (∀ fr' σ', P fr' σ' → T E N z y Q fr' σ') → T E N z (a.seq (b.seq (c.seq (e.seq (f.seq (g.seq (h.seq y))))))) Q fr σ) : T E N z (a.seq (b.seq (c.seq (e.seq (f.seq (g.seq (h.seq d))))))) Q fr σ := h2 d ⟨h1⟩
def pickS' (ids : List Nat) (σ : Store) : Store := ids.map fun i => (σ[i]?).join
theorem t_pick (O : E.OK) {y : Code} {fr' : Fr} {σ' : Store} (ids ts : List Nat) (hnd : ids.Nodup) (hz : Nat.ble z ids.length = true) (hid : ids.take z = List.range z) (hfr : ((Fr.keep ts fr).map fun p => (p.1, ren (fun b => ids.idxOf b) p.2)) = fr') (hσ : renStore (fun b => ids.idxOf b) (pickS' ids σ) = σ')
  (hb : ((Fr.keep ts fr).all fun p => allB (fun b => decide (b ∈ ids)) p.2) = true) (hall : allStore (fun b => decide (b ∈ ids)) (pickS' ids σ) = true) (hk : T E N z y Q fr' σ') : T E N z y Q fr σ := by
 subst hfr hσ
 have hinv : ∀ b, (fun b => decide (b ∈ ids)) b = true → nth ids (ids.idxOf b) = b := fun b hb => nth_idx (by simpa using hb)
 have hlt : ∀ b, (fun b => decide (b ∈ ids)) b = true → (fun b => decide (b < ids.length)) (ids.idxOf b) = true := fun b hb => by simpa using List.idxOf_lt_length_iff.2 (by simpa using hb)
 refine T_renz O (c := y) ids ts hnd (by simp [renStore, pickS']) (Nat.le_of_ble_eq_true hz) (renz_id hid) ?_ ?_ ?_ (fun i hi => ?_) hk
 ·rw [List.map_map]
  have : ∀ l : Fr, (l.all fun p => allB (fun b => decide (b ∈ ids)) p.2) = true → l = l.map ((fun p => (p.1, ren (nth ids) p.2)) ∘ fun p => (p.1, ren (fun b => ids.idxOf b) p.2)) := fun l hl => by
   induction l with
   | nil => rfl
   | cons p l ih =>
    simp only [List.all_cons, Bool.and_eq_true] at hl
    rw [List.map_cons, ← ih hl.2]
    congr 1
    have h1 := renL_renL (r := fun b => ids.idxOf b) (s := nth ids) hinv [p.2] (by simpa [allL] using hl.1)
    simp only [renL, List.cons.injEq, and_true] at h1
    simp only [Function.comp, h1]
  exact this _ hb
 ·rw [List.all_map]
  rw [List.all_eq_true] at hb ⊢
  intro p hp
  have := allL_renL (r := fun b => ids.idxOf b) (q := fun b => decide (b < ids.length)) hlt [p.2] (by simpa [allL] using hb p hp)
  simpa [allL, renL] using this
 ·unfold allStore renStore at *
  rw [List.all_map]
  rw [List.all_eq_true] at hall ⊢
  intro x hx
  have := hall x hx
  cases x with
  | none => rfl
  | some b => exact allBlk_ren (r := fun b => ids.idxOf b) hlt b this
 ·simp only [renStore, pickS', List.map_map, List.getElem?_map, nth, List.getD_eq_getElem?_getD, List.getElem?_eq_getElem hi, Option.map_some, Option.getD_some, Function.comp, Option.join_some]
  have h1 := List.all_eq_true.1 hall ((σ[ids[i]]?).join) (List.mem_map.2 ⟨ids[i], List.getElem_mem hi, rfl⟩)
  cases h2 : (σ[ids[i]]?).join with
  | none => rfl
  | some b =>
   rw [h2] at h1
   simp only [Option.map_some]
   rw [renBlk_renBlk hinv b h1]
mutual
inductive Wk : PV → PV → Prop
 | refl (x : PV) : Wk x x
 | nils : Wk .nils (.lit [])
 | agg {t : TypeId} {xs ys : List PV} (h : WkL xs ys) : Wk (.agg t xs) (.agg t ys)
inductive WkL : List PV → List PV → Prop
 | refl (xs : List PV) : WkL xs xs
 | cons {x y : PV} {xs ys : List PV} (h : Wk x y) (hs : WkL xs ys) : WkL (x :: xs) (y :: ys)
end
theorem Wk.fits {T : TypeId} {x y : PV} (h : Wk x y) (hf : fits E T x = true) : Proofs.YtdplbgfokoajjaaGreat.fits E T y = true := by
 cases h with
 | refl => exact hf
 | nils => exact hf
 | agg h => exact hf
mutual
theorem VC.wk {cx : Cx} {x y : PV} {cs : List Value} (w : Wk x y) (h : VC E cx x cs) : VC E cx y cs := by
 match w with
 | .refl _ => exact h
 | .nils => cases h with | nils a => exact .lit0 a 0
 | @Wk.agg t _ _ w => cases h with | agg _ fs cs hs => exact .agg t _ cs (VCs.wk w hs)
theorem VCs.wk {cx : Cx} {Ts : List TypeId} {xs ys : List PV} {cs : List Value} (w : WkL xs ys) (h : VCs E cx Ts xs cs) : VCs E cx Ts ys cs := by
 match w with
 | .refl _ => exact h
 | .cons w ws => cases h with | cons hf h hs => exact .cons (w.fits hf) (VC.wk w h) (VCs.wk ws hs)
end
theorem VL.wk {cx : Cx} {x y : PV} {v : Value} (w : Wk x y) (h : VL E cx [x] [v]) : VL E cx [y] [v] := by
 cases w with
 | refl => exact h
 | nils => cases h with | one h1 hn h hs => exact .one h1 (by intro t fs e; cases e) (VC.wk .nils h) hs
 | agg w =>
  cases h with
  | one h1 hn h hs => exact absurd rfl (hn _ _)
  | agg h hs => exact .agg (VC.wk (.agg w) h) hs
inductive WkF : Fr → Fr → Prop
 | refl (fr : Fr) : WkF fr fr
 | cons {t : Nat} {x y : PV} {fr fr' : Fr} (h : Wk x y) (hs : WkF fr fr') : WkF ((t, x) :: fr) ((t, y) :: fr')
inductive WkB : Option Blk → Option Blk → Prop
 | refl (b : Option Blk) : WkB b b
 | cells {t : TypeId} {g : Nat} {xs ys : List PV} (h : WkL xs ys) : WkB (some (.cells t g xs)) (some (.cells t g ys))
inductive WkS : Store → Store → Prop
 | refl (σ : Store) : WkS σ σ
 | cons {a b : Option Blk} {σ σ' : Store} (h : WkB a b) (hs : WkS σ σ') : WkS (a :: σ) (b :: σ')
theorem WkF.get {fr fr' : Fr} (h : WkF fr fr') (t : Nat) (y : PV) (hy : Fr.get fr' t = some y) : ∃ x, Fr.get fr t = some x ∧ Wk x y := by
 induction h with
 | refl fr => exact ⟨y, hy, .refl _⟩
 | cons h hs ih =>
  simp only [Fr.get] at hy ⊢
  split at hy
  ·cases hy; rename_i e; exact ⟨_, if_pos e, h⟩
  ·rename_i e; rw [if_neg e]; exact ih hy
theorem WkL.len {xs ys : List PV} (h : WkL xs ys) : xs.length = ys.length := by
 match h with
 | .refl _ => rfl
 | .cons _ hs => simp [hs.len]
theorem WkS.at {σ σ' : Store} (h : WkS σ σ') (i : Nat) : (σ[i]? = none ∧ σ'[i]? = none) ∨ ∃ a b, σ[i]? = some a ∧ σ'[i]? = some b ∧ WkB a b := by
 induction h generalizing i with
 | refl σ =>
  cases h : σ[i]? with
  | none => exact .inl ⟨rfl, rfl⟩
  | some a => exact .inr ⟨a, a, rfl, rfl, .refl _⟩
 | cons h hs ih =>
  cases i with
  | zero => exact .inr ⟨_, _, rfl, rfl, h⟩
  | succ i => simpa using ih i
theorem BlkOK.wk {cx : Cx} {m : MB} {a b : Blk} (w : WkB (some a) (some b)) (h : BlkOK E cx m a) : BlkOK E cx m b := by
 cases w with
 | refl => exact h
 | cells w =>
  obtain ⟨h1, h2, ca, e, fz, cs, h3, h4, h5, h6⟩ := h
  exact ⟨h1, h2, ca, e, fz, cs, h3, h4, by rw [← w.len]; exact VCs.wk w h5, h6⟩
theorem T_wk {c : Code} {fr' : Fr} {σ' : Store} (hf : WkF fr fr') (hσ : WkS σ σ') (h : T E N z c Q fr' σ') : T E N z c Q fr σ := fun cx a ht hn hfr => by
 have hlen : σ'.length = σ.length := by
  clear h hf ht hn
  induction hσ with
  | refl => rfl
  | cons _ _ ih => simp [ih]
 refine h cx a ht ⟨by rw [hlen]; exact hn.top, fun b hb => by rw [hlen]; exact hn.A b hb, hn.IF, hn.imm, fun b m hm => ?_, fun b blk hb => ?_, hn.inj, hn.base⟩ ⟨hfr.1, fun t y hy => ?_⟩
 ·obtain ⟨blk, k1, k2, k3, k4⟩ := hn.dom b m hm
  rcases hσ.at b with ⟨e1, e2⟩ | ⟨x, y, e1, e2, w⟩
  ·rw [k1] at e1; cases e1
  ·rw [k1] at e1; cases e1
   cases y with
   | none => cases w
   | some y => exact ⟨y, e2, k2, k3, k4.wk w⟩
 ·rcases hσ.at b with ⟨e1, e2⟩ | ⟨x, y, e1, e2, w⟩
  ·rw [hb] at e2; cases e2
  ·rw [hb] at e2; cases e2
   cases x with
   | none => cases w
   | some x => exact hn.live b x e1
 ·obtain ⟨x, hx, w⟩ := hf.get t y hy
  obtain ⟨h1, h2⟩ := hfr.2 t x hx
  exact ⟨h1, VL.wk w h2⟩
end
structure QR {α : Type} (a b : α) : Prop where
 eq : a = b
structure QS {α : Type} (a b : α) : Prop where
 eq : a = b
structure QW {α : Type} (a b : α) : Prop where
 eq : a = b
structure Q9 {α : Type} (a b : α) : Prop where
 eq : a = b
structure QB (p q : Prop) : Prop where
 im : p → q
section
variable {E : Env} {N z : Nat} {Q : Post} {K : Fr → Store → Prop} {fr : Fr} {σ σ' : Store} {os : List POp} {t : Nat} {v xv yv : PV} {x y : Operand} {U : TypeId} {k : List It}
end
structure WQ (W : Prop) : Prop where
 q : W
theorem go {P W : Prop} (k : W) (h : WQ W → P := by
  intro q9
  first
   | ((with_reducible refine iRG ?_); first | (apply o_move; exact rfl) | (apply o_assign; exact rfl) | (apply o_load; exact rfl; exact rfl; (solve | exact rfl | (conv => lhs; simp))) | (apply o_fa; exact rfl; exact rfl; exact rfl; (solve | (conv => lhs; try simp))) | (apply o_bin; exact rfl; exact rfl; exact rfl; exact rfl; (solve | (conv => lhs; try simp; try simp (disch := omega) only [wi64, wu64, dect, decf, beqt, beqf, bnet, bnef, ift, iff_, ipt, ipf, wtdiv, gq]; try simp))) | (apply o_store; exact rfl; exact rfl; exact rfl; (solve | exact rfl | (conv => lhs; simp))) | (apply o_nilCheck; exact rfl; (solve | exact rfl | simp)) | (apply g_run; exact rfl) | (apply g_not; exact rfl) | (apply g_skip; exact rfl) | (apply o_op; exact rfl; exact rfl; (solve | (conv => lhs; try simp; try simp (disch := omega) only [wi64, wu64, dect, decf, beqt, beqf, bnet, bnef, ift, iff_, ipt, ipf, wtdiv, gq]; try simp))) | (apply o_op0; exact rfl; exact rfl; (solve | (conv => lhs; try simp; try simp (disch := omega) only [wi64, wu64, dect, decf, beqt, beqf, bnet, bnef, ift, iff_, ipt, ipf, wtdiv, gq]; try simp))) | (apply o_call; exact rfl; (solve | (conv => lhs; try simp))) | (apply o_nil1; exact rfl; (solve | (conv => lhs; try simp))) | (apply w_end; exact rfl) | (refine ra_next ?_))
   | ((with_reducible refine iT ?_); first | (apply s_reg' tOK; exact rfl; (solve | (conv => lhs; simp))) | (refine s_block ?_) | (apply w_ret; exact rfl) | (apply w_skip; exact rfl) | (apply w_exit; exact rfl) | (apply s_ift; exact rfl) | (apply s_iff; exact rfl))
   | ((with_reducible refine iSP ?_); first | (apply s_next; assumption) | (apply r_fin; (solve | (conv => lhs; try simp)); (solve | (conv => lhs; try simp))) | (apply n_fin; (solve | (conv => lhs; try simp)); (solve | (conv => lhs; try simp))))
   | ((with_reducible refine iA ?_); first | (refine a_ret ?_) | (refine a_ret0 ?_))
   | ((with_reducible refine iDP ?_); first | (apply d_move; exact rfl) | (apply d_op; exact rfl; (solve | (conv => lhs; try simp; try simp (disch := omega) only [wi64, wu64, dect, decf, beqt, beqf, bnet, bnef, ift, iff_, ipt, ipf, wtdiv, gq]; try simp)); (solve | exact rfl | simp); (solve | (conv => lhs; try simp))) | (apply d_op0; exact rfl; (solve | (conv => lhs; try simp; try simp (disch := omega) only [wi64, wu64, dect, decf, beqt, beqf, bnet, bnef, ift, iff_, ipt, ipf, wtdiv, gq]; try simp)); (solve | exact rfl | simp); (solve | (conv => lhs; try simp))) | (apply d_end) | (apply dg_run; exact rfl) | (apply dg_not; exact rfl) | (apply dg_skip; exact rfl))
   | ((with_reducible refine iRA ?_); first | (apply ra_ends; exact rfl; exact rfl) | (apply ra_one; exact rfl; exact rfl))
   | (apply s_R; assumption)
   | (apply f_ret; (solve | (conv => lhs; try simp)))
   | fail
  repeat first
   | ((with_reducible refine iRG ?_); first | (apply o_move; exact rfl) | (apply o_assign; exact rfl) | (apply o_load; exact rfl; exact rfl; (solve | exact rfl | (conv => lhs; simp))) | (apply o_fa; exact rfl; exact rfl; exact rfl; (solve | (conv => lhs; try simp))) | (apply o_bin; exact rfl; exact rfl; exact rfl; exact rfl; (solve | (conv => lhs; try simp; try simp (disch := omega) only [wi64, wu64, dect, decf, beqt, beqf, bnet, bnef, ift, iff_, ipt, ipf, wtdiv, gq]; try simp))) | (apply o_store; exact rfl; exact rfl; exact rfl; (solve | exact rfl | (conv => lhs; simp))) | (apply o_nilCheck; exact rfl; (solve | exact rfl | simp)) | (apply g_run; exact rfl) | (apply g_not; exact rfl) | (apply g_skip; exact rfl) | (apply o_op; exact rfl; exact rfl; (solve | (conv => lhs; try simp; try simp (disch := omega) only [wi64, wu64, dect, decf, beqt, beqf, bnet, bnef, ift, iff_, ipt, ipf, wtdiv, gq]; try simp))) | (apply o_op0; exact rfl; exact rfl; (solve | (conv => lhs; try simp; try simp (disch := omega) only [wi64, wu64, dect, decf, beqt, beqf, bnet, bnef, ift, iff_, ipt, ipf, wtdiv, gq]; try simp))) | (apply o_call; exact rfl; (solve | (conv => lhs; try simp))) | (apply o_nil1; exact rfl; (solve | (conv => lhs; try simp))) | (apply w_end; exact rfl) | (refine ra_next ?_))
   | ((with_reducible refine iT ?_); first | (apply s_reg' tOK; exact rfl; (solve | (conv => lhs; simp))) | (refine s_block ?_) | (apply w_ret; exact rfl) | (apply w_skip; exact rfl) | (apply w_exit; exact rfl) | (apply s_ift; exact rfl) | (apply s_iff; exact rfl))
   | ((with_reducible refine iSP ?_); first | (apply s_next; assumption) | (apply r_fin; (solve | (conv => lhs; try simp)); (solve | (conv => lhs; try simp))) | (apply n_fin; (solve | (conv => lhs; try simp)); (solve | (conv => lhs; try simp))))
   | ((with_reducible refine iA ?_); first | (refine a_ret ?_) | (refine a_ret0 ?_))
   | ((with_reducible refine iDP ?_); first | (apply d_move; exact rfl) | (apply d_op; exact rfl; (solve | (conv => lhs; try simp; try simp (disch := omega) only [wi64, wu64, dect, decf, beqt, beqf, bnet, bnef, ift, iff_, ipt, ipf, wtdiv, gq]; try simp)); (solve | exact rfl | simp); (solve | (conv => lhs; try simp))) | (apply d_op0; exact rfl; (solve | (conv => lhs; try simp; try simp (disch := omega) only [wi64, wu64, dect, decf, beqt, beqf, bnet, bnef, ift, iff_, ipt, ipf, wtdiv, gq]; try simp)); (solve | exact rfl | simp); (solve | (conv => lhs; try simp))) | (apply d_end) | (apply dg_run; exact rfl) | (apply dg_not; exact rfl) | (apply dg_skip; exact rfl))
   | ((with_reducible refine iRA ?_); first | (apply ra_ends; exact rfl; exact rfl) | (apply ra_one; exact rfl; exact rfl))
   | (apply s_R; assumption)
   | (apply f_ret; (solve | (conv => lhs; try simp)))
   | fail
  exact q9.1) : P := h ⟨k⟩
theorem gf {P W : Prop} (k : W) (h : WQ W → P := by
  intro q9
  first
   | ((with_reducible refine iRG ?_); first | (apply o_move; exact rfl) | (apply o_assign; exact rfl) | (apply o_load; exact rfl; exact rfl; (solve | exact rfl | (conv => lhs; simp [F9]))) | (apply o_fa; exact rfl; exact rfl; exact rfl; (solve | (conv => lhs; try simp [F9]))) | (apply o_bin; exact rfl; exact rfl; exact rfl; exact rfl; (solve | (conv => lhs; try simp [F9]; try simp (disch := omega) only [wi64, wu64, dect, decf, beqt, beqf, bnet, bnef, ift, iff_, ipt, ipf, wtdiv, gq]; try simp [F9]))) | (apply o_store; exact rfl; exact rfl; exact rfl; (solve | exact rfl | (conv => lhs; simp [F9]))) | (apply o_nilCheck; exact rfl; (solve | exact rfl | simp)) | (apply g_run; exact rfl) | (apply g_not; exact rfl) | (apply g_skip; exact rfl) | (apply o_op; exact rfl; exact rfl; (solve | (conv => lhs; try simp [F9]; try simp (disch := omega) only [wi64, wu64, dect, decf, beqt, beqf, bnet, bnef, ift, iff_, ipt, ipf, wtdiv, gq]; try simp [F9]))) | (apply o_op0; exact rfl; exact rfl; (solve | (conv => lhs; try simp [F9]; try simp (disch := omega) only [wi64, wu64, dect, decf, beqt, beqf, bnet, bnef, ift, iff_, ipt, ipf, wtdiv, gq]; try simp [F9]))) | (apply o_call; exact rfl; (solve | (conv => lhs; try simp [F9]))) | (apply o_nil1; exact rfl; (solve | (conv => lhs; try simp [F9]))) | (apply w_end; exact rfl) | (refine ra_next ?_))
   | ((with_reducible refine iT ?_); first | (apply s_reg' tOK; exact rfl; (solve | (conv => lhs; simp))) | (refine s_block ?_) | (apply w_ret; exact rfl) | (apply w_skip; exact rfl) | (apply w_exit; exact rfl) | (apply s_ift; exact rfl) | (apply s_iff; exact rfl))
   | ((with_reducible refine iSP ?_); first | (apply s_next; assumption) | (apply r_fin; (solve | (conv => lhs; try simp [F9])); (solve | (conv => lhs; try simp [F9]))) | (apply n_fin; (solve | (conv => lhs; try simp [F9])); (solve | (conv => lhs; try simp [F9]))))
   | ((with_reducible refine iA ?_); first | (refine a_ret ?_) | (refine a_ret0 ?_))
   | ((with_reducible refine iDP ?_); first | (apply d_move; exact rfl) | (apply d_op; exact rfl; (solve | (conv => lhs; try simp [F9]; try simp (disch := omega) only [wi64, wu64, dect, decf, beqt, beqf, bnet, bnef, ift, iff_, ipt, ipf, wtdiv, gq]; try simp [F9])); (solve | exact rfl | simp); (solve | (conv => lhs; try simp [F9]))) | (apply d_op0; exact rfl; (solve | (conv => lhs; try simp [F9]; try simp (disch := omega) only [wi64, wu64, dect, decf, beqt, beqf, bnet, bnef, ift, iff_, ipt, ipf, wtdiv, gq]; try simp [F9])); (solve | exact rfl | simp); (solve | (conv => lhs; try simp [F9]))) | (apply d_end) | (apply dg_run; exact rfl) | (apply dg_not; exact rfl) | (apply dg_skip; exact rfl))
   | ((with_reducible refine iRA ?_); first | (apply ra_ends; exact rfl; exact rfl) | (apply ra_one; exact rfl; exact rfl))
   | (apply s_R; assumption)
   | (apply f_ret; (solve | (conv => lhs; try simp [F9])))
   | fail
  repeat first
   | ((with_reducible refine iRG ?_); first | (apply o_move; exact rfl) | (apply o_assign; exact rfl) | (apply o_load; exact rfl; exact rfl; (solve | exact rfl | (conv => lhs; simp [F9]))) | (apply o_fa; exact rfl; exact rfl; exact rfl; (solve | (conv => lhs; try simp [F9]))) | (apply o_bin; exact rfl; exact rfl; exact rfl; exact rfl; (solve | (conv => lhs; try simp [F9]; try simp (disch := omega) only [wi64, wu64, dect, decf, beqt, beqf, bnet, bnef, ift, iff_, ipt, ipf, wtdiv, gq]; try simp [F9]))) | (apply o_store; exact rfl; exact rfl; exact rfl; (solve | exact rfl | (conv => lhs; simp [F9]))) | (apply o_nilCheck; exact rfl; (solve | exact rfl | simp)) | (apply g_run; exact rfl) | (apply g_not; exact rfl) | (apply g_skip; exact rfl) | (apply o_op; exact rfl; exact rfl; (solve | (conv => lhs; try simp [F9]; try simp (disch := omega) only [wi64, wu64, dect, decf, beqt, beqf, bnet, bnef, ift, iff_, ipt, ipf, wtdiv, gq]; try simp [F9]))) | (apply o_op0; exact rfl; exact rfl; (solve | (conv => lhs; try simp [F9]; try simp (disch := omega) only [wi64, wu64, dect, decf, beqt, beqf, bnet, bnef, ift, iff_, ipt, ipf, wtdiv, gq]; try simp [F9]))) | (apply o_call; exact rfl; (solve | (conv => lhs; try simp [F9]))) | (apply o_nil1; exact rfl; (solve | (conv => lhs; try simp [F9]))) | (apply w_end; exact rfl) | (refine ra_next ?_))
   | ((with_reducible refine iT ?_); first | (apply s_reg' tOK; exact rfl; (solve | (conv => lhs; simp))) | (refine s_block ?_) | (apply w_ret; exact rfl) | (apply w_skip; exact rfl) | (apply w_exit; exact rfl) | (apply s_ift; exact rfl) | (apply s_iff; exact rfl))
   | ((with_reducible refine iSP ?_); first | (apply s_next; assumption) | (apply r_fin; (solve | (conv => lhs; try simp [F9])); (solve | (conv => lhs; try simp [F9]))) | (apply n_fin; (solve | (conv => lhs; try simp [F9])); (solve | (conv => lhs; try simp [F9]))))
   | ((with_reducible refine iA ?_); first | (refine a_ret ?_) | (refine a_ret0 ?_))
   | ((with_reducible refine iDP ?_); first | (apply d_move; exact rfl) | (apply d_op; exact rfl; (solve | (conv => lhs; try simp [F9]; try simp (disch := omega) only [wi64, wu64, dect, decf, beqt, beqf, bnet, bnef, ift, iff_, ipt, ipf, wtdiv, gq]; try simp [F9])); (solve | exact rfl | simp); (solve | (conv => lhs; try simp [F9]))) | (apply d_op0; exact rfl; (solve | (conv => lhs; try simp [F9]; try simp (disch := omega) only [wi64, wu64, dect, decf, beqt, beqf, bnet, bnef, ift, iff_, ipt, ipf, wtdiv, gq]; try simp [F9])); (solve | exact rfl | simp); (solve | (conv => lhs; try simp [F9]))) | (apply d_end) | (apply dg_run; exact rfl) | (apply dg_not; exact rfl) | (apply dg_skip; exact rfl))
   | ((with_reducible refine iRA ?_); first | (apply ra_ends; exact rfl; exact rfl) | (apply ra_one; exact rfl; exact rfl))
   | (apply s_R; assumption)
   | (apply f_ret; (solve | (conv => lhs; try simp [F9])))
   | fail
  exact q9.1) : P := h ⟨k⟩
theorem g1 {P W : Prop} (k : W) (h : WQ W → P := by
  intro q9
  first
   | ((with_reducible refine iRG ?_); first | (apply o_move; exact rfl) | (apply o_assign; exact rfl) | (apply o_load; exact rfl; exact rfl; (solve | exact rfl | (conv => lhs; simp))) | (apply o_fa; exact rfl; exact rfl; exact rfl; (solve | (conv => lhs; try simp))) | (apply o_bin; exact rfl; exact rfl; exact rfl; exact rfl; (solve | (conv => lhs; try simp; try simp (disch := omega) only [wi64, wu64, dect, decf, beqt, beqf, bnet, bnef, ift, iff_, ipt, ipf, wtdiv, gq]; try simp))) | (apply o_store; exact rfl; exact rfl; exact rfl; (solve | exact rfl | (conv => lhs; simp))) | (apply o_nilCheck; exact rfl; (solve | exact rfl | simp)) | (apply g_run; exact rfl) | (apply g_not; exact rfl) | (apply g_skip; exact rfl) | (apply o_op; exact rfl; exact rfl; (solve | (conv => lhs; try simp; try simp (disch := omega) only [wi64, wu64, dect, decf, beqt, beqf, bnet, bnef, ift, iff_, ipt, ipf, wtdiv, gq]; try simp))) | (apply o_op0; exact rfl; exact rfl; (solve | (conv => lhs; try simp; try simp (disch := omega) only [wi64, wu64, dect, decf, beqt, beqf, bnet, bnef, ift, iff_, ipt, ipf, wtdiv, gq]; try simp))) | (apply o_call; exact rfl; (solve | (conv => lhs; try simp))) | (apply o_nil1; exact rfl; (solve | (conv => lhs; try simp))) | (apply w_end; exact rfl) | (refine ra_next ?_))
   | ((with_reducible refine iT ?_); first | (apply s_reg' tOK; exact rfl; (solve | (conv => lhs; simp))) | (refine s_block ?_) | (apply w_ret; exact rfl) | (apply w_skip; exact rfl) | (apply w_exit; exact rfl) | (apply s_ift; exact rfl) | (apply s_iff; exact rfl))
   | ((with_reducible refine iSP ?_); first | (apply s_next; assumption) | (apply r_fin; (solve | (conv => lhs; try simp)); (solve | (conv => lhs; try simp))) | (apply n_fin; (solve | (conv => lhs; try simp)); (solve | (conv => lhs; try simp))))
   | ((with_reducible refine iA ?_); first | (refine a_ret ?_) | (refine a_ret0 ?_))
   | ((with_reducible refine iDP ?_); first | (apply d_move; exact rfl) | (apply d_op; exact rfl; (solve | (conv => lhs; try simp; try simp (disch := omega) only [wi64, wu64, dect, decf, beqt, beqf, bnet, bnef, ift, iff_, ipt, ipf, wtdiv, gq]; try simp)); (solve | exact rfl | simp); (solve | (conv => lhs; try simp))) | (apply d_op0; exact rfl; (solve | (conv => lhs; try simp; try simp (disch := omega) only [wi64, wu64, dect, decf, beqt, beqf, bnet, bnef, ift, iff_, ipt, ipf, wtdiv, gq]; try simp)); (solve | exact rfl | simp); (solve | (conv => lhs; try simp))) | (apply d_end) | (apply dg_run; exact rfl) | (apply dg_not; exact rfl) | (apply dg_skip; exact rfl))
   | ((with_reducible refine iRA ?_); first | (apply ra_ends; exact rfl; exact rfl) | (apply ra_one; exact rfl; exact rfl))
   | (apply s_R; assumption)
   | (apply f_ret; (solve | (conv => lhs; try simp)))
   | fail
  exact q9.1) : P := h ⟨k⟩
theorem g2 {P W : Prop} (k : W) (h : WQ W → P := by
  intro q9
  first
   | ((with_reducible refine iRG ?_); first | (apply o_move; exact rfl) | (apply o_assign; exact rfl) | (apply o_load; exact rfl; exact rfl; (solve | exact rfl | (conv => lhs; simp [F9]))) | (apply o_fa; exact rfl; exact rfl; exact rfl; (solve | (conv => lhs; try simp [F9]))) | (apply o_bin; exact rfl; exact rfl; exact rfl; exact rfl; (solve | (conv => lhs; try simp [F9]; try simp (disch := omega) only [wi64, wu64, dect, decf, beqt, beqf, bnet, bnef, ift, iff_, ipt, ipf, wtdiv, gq]; try simp [F9]))) | (apply o_store; exact rfl; exact rfl; exact rfl; (solve | exact rfl | (conv => lhs; simp [F9]))) | (apply o_nilCheck; exact rfl; (solve | exact rfl | simp)) | (apply g_run; exact rfl) | (apply g_not; exact rfl) | (apply g_skip; exact rfl) | (apply o_op; exact rfl; exact rfl; (solve | (conv => lhs; try simp [F9]; try simp (disch := omega) only [wi64, wu64, dect, decf, beqt, beqf, bnet, bnef, ift, iff_, ipt, ipf, wtdiv, gq]; try simp [F9]))) | (apply o_op0; exact rfl; exact rfl; (solve | (conv => lhs; try simp [F9]; try simp (disch := omega) only [wi64, wu64, dect, decf, beqt, beqf, bnet, bnef, ift, iff_, ipt, ipf, wtdiv, gq]; try simp [F9]))) | (apply o_call; exact rfl; (solve | (conv => lhs; try simp [F9]))) | (apply o_nil1; exact rfl; (solve | (conv => lhs; try simp [F9]))) | (apply w_end; exact rfl) | (refine ra_next ?_))
   | ((with_reducible refine iT ?_); first | (apply s_reg' tOK; exact rfl; (solve | (conv => lhs; simp))) | (refine s_block ?_) | (apply w_ret; exact rfl) | (apply w_skip; exact rfl) | (apply w_exit; exact rfl) | (apply s_ift; exact rfl) | (apply s_iff; exact rfl))
   | ((with_reducible refine iSP ?_); first | (apply s_next; assumption) | (apply r_fin; (solve | (conv => lhs; try simp [F9])); (solve | (conv => lhs; try simp [F9]))) | (apply n_fin; (solve | (conv => lhs; try simp [F9])); (solve | (conv => lhs; try simp [F9]))))
   | ((with_reducible refine iA ?_); first | (refine a_ret ?_) | (refine a_ret0 ?_))
   | ((with_reducible refine iDP ?_); first | (apply d_move; exact rfl) | (apply d_op; exact rfl; (solve | (conv => lhs; try simp [F9]; try simp (disch := omega) only [wi64, wu64, dect, decf, beqt, beqf, bnet, bnef, ift, iff_, ipt, ipf, wtdiv, gq]; try simp [F9])); (solve | exact rfl | simp); (solve | (conv => lhs; try simp [F9]))) | (apply d_op0; exact rfl; (solve | (conv => lhs; try simp [F9]; try simp (disch := omega) only [wi64, wu64, dect, decf, beqt, beqf, bnet, bnef, ift, iff_, ipt, ipf, wtdiv, gq]; try simp [F9])); (solve | exact rfl | simp); (solve | (conv => lhs; try simp [F9]))) | (apply d_end) | (apply dg_run; exact rfl) | (apply dg_not; exact rfl) | (apply dg_skip; exact rfl))
   | ((with_reducible refine iRA ?_); first | (apply ra_ends; exact rfl; exact rfl) | (apply ra_one; exact rfl; exact rfl))
   | (apply s_R; assumption)
   | (apply f_ret; (solve | (conv => lhs; try simp [F9])))
   | fail
  exact q9.1) : P := h ⟨k⟩
section
variable {E : Env} {N z : Nat} {Q : Post} {K : Fr → Store → Prop} {fr : Fr} {σ : Store} {k : List It} {t : Nat} {c d : Code}
theorem qT (b : Bool) (h1 : QB (b = true) (T E N z c Q fr σ)) (h2 : QB (b = false) (T E N z d Q fr σ)) (hg : Fr.get fr t = some (.bool b) := by first | exact rfl | fail) : T E N z (.cond (.tmp t) c d) Q fr σ := T_if b hg h1.1 h2.1
theorem qG {d : Option Tmp} {op : Op} {w : Bool} {os : List POp} (b : Bool) (h1 : QB (b = w) (RG E Q K (⟨none, d, op⟩ :: os) fr σ)) (h2 : QB (b = (!w)) (RG E Q K os (Fr.put fr d (.tup [])) σ)) (h : Fr.get fr t = some (.bool b) := by first | exact rfl | fail) : RG E Q K (⟨some (some t, w), d, op⟩ :: os) fr σ := g_if b h h1.1 h2.1
theorem qD {base i sl : Nat} {pr : List Nat} {acc : List (Nat × List Nat × Option Nat)} {d : Option Tmp} {op : Op} {w : Bool} {qs : List DOp} (b : Bool) (h1 : QB (b = w) (DP E base K i (⟨⟨none, d, op⟩, pr, sl⟩ :: qs) fr σ acc)) (h2 : QB (b = (!w)) (DP E base K (i + 1) qs (Fr.put fr d (.tup [])) σ acc)) (h : Fr.get fr t = some (.bool b) := by first | exact rfl | fail) :
  DP E base K i (⟨⟨some (some t, w), d, op⟩, pr, sl⟩ :: qs) fr σ acc := dg_if b h h1.1 h2.1
theorem qN {op : Op} {b c : PV} {os : List POp} (hb : RG E Q K os ((t, b) :: fr) σ) (hc : RG E Q K os ((t, c) :: fr) σ) (h1 : isCall op = none := by first | exact rfl | fail) (h2 : nilCmp E op fr σ = some [b, c] := by first | (solve | (conv => lhs; try simp)) | (solve | (conv => lhs; try simp [F9])) | fail) : RG E Q K (⟨none, some t, op⟩ :: os) fr σ := o_nil2 h1 h2 hb hc
theorem nZ {f : FuncId} {args args' : List PV} {R : Re → Store → Prop} (h : C E f args' σ R) (ha : nzL args = args' := by first | (solve | (conv => lhs; simp)) | exact rfl | fail) : C E f args σ R := c_nz ha h
theorem cE {n' : FuncId} {fn : Func} (hfn : E.P.funcs[n']? = some fn) (O : E.OK) {c : Code} {args : List PV} {R : Re → Store → Prop} {n l : Nat} {rs : List ResultVar} {fr0 : Fr}
  (h : ∀ R', IsR R' R → T E n l c (SP E n l (bodyQ E rs R') []) fr0 σ) (hb : fn.body = some c := by first | exact rfl | fail) (hn : fn.ntmps = n := by first | (solve | (conv => lhs; simp)) | fail) (hr : fn.results.toList = rs := by first | (solve | (conv => lhs; simp)) | fail) (ha : Fr.args 0 args = fr0 := by first | (solve | (conv => lhs; simp [Fr.args])) | fail) (hl : Nat.ble args.length n = true := by first | exact rfl | fail) (hz : σ.length = l := by first | (solve | (conv => lhs; try simp)) | fail) : C E n' args σ R := s_body' hfn O hb hn hr ha hl hz h
theorem sD (O : E.OK) (hmix : E.P.follows .mixedOrders = true) {id : Nat} {ops : Array Oper} {qs : List DOp} {ps : List POp} {τ : Store} (tab : Tab) (m : Nat) (h : DP E σ.length (RG E (SP E N z Q k) (SP E N z Q k .normal) ps) 0 qs fr τ [])
  (hchk : chkDraw ops tab m N = true := by decide +kernel) (hq : prepD ops tab 0 (ops.toList.take m) = qs := by first | (solve | (conv => lhs; try simp)) | fail) (hp : prep ops (ops.toList.drop m) = ps := by first | (solve | (conv => lhs; try simp)) | fail) (hτ : σ ++ List.replicate ops.size none = τ := by first | (solve | (conv => lhs; try simp)) | fail) : T E N z (.region id ops true) (SP E N z Q k) fr σ := s_draw' O hmix tab m hchk hq hp hτ h
end
def kp (ids : List Nat) (n : Nat) (b : Nat) : Nat := if b < ids.length then nth ids b else n + (b - ids.length)
def neuS (ids : List Nat) (σ σ1 : Store) : Store := putAll σ ids (renStore (kp ids σ.length) (σ1.take ids.length)) ++ renStore (kp ids σ.length) (σ1.drop ids.length)
def neuRe (ids : List Nat) (σ : Store) (R : Re → Store → Prop) (re : Re) (σ1 : Store) : Prop :=
 match re with
 | .ret r => R (.ret (ren (kp ids σ.length) r)) (neuS ids σ σ1)
 | .pan r => R (.pan (ren (kp ids σ.length) r)) (neuS ids σ σ1)
section
variable {E : Env}
theorem C_neu (O : E.OK) {f : FuncId} {args : List PV} {σ0 σ : Store} {R : Re → Store → Prop} (ids : List Nat) (hnd : ids.Nodup) (hlen : σ0.length = ids.length) (hargs : allL (fun b => decide (b < ids.length)) args = true)
    (hall : allStore (fun b => decide (b < ids.length)) σ0 = true) (hat : ∀ i, i < ids.length → σ[nth ids i]? = (renStore (nth ids) σ0)[i]?) (h : C E f args σ0 (neuRe ids σ R)) : C E f (renL (nth ids) args) σ R := fun cx vs hn hv => by
  have hinv : ∀ b, decide (b < ids.length) = true → ids.idxOf (nth ids b) = b := fun b hb => idx_nth hnd (by simpa using hb)
  have hmem : ∀ b, decide (b < ids.length) = true → (fun b => decide (b ∈ ids)) (nth ids b) = true := fun b hb => by simpa using nth_mem (by simpa using hb)
  have hblk0 : ∀ (i : Nat) (blk : Blk), σ0[i]? = some (some blk) → allBlk (fun b => decide (b < ids.length)) blk = true := fun i blk hi => by
    have := List.all_eq_true.1 hall _ (List.mem_of_getElem? hi); exact this
  have hblkσ : ∀ (i : Nat) (blk : Blk), σ0[i]? = some (some blk) → σ[nth ids i]? = some (some (renBlk (nth ids) blk)) := fun i blk hi => by
    have hlt : i < ids.length := by rw [← hlen]; exact getElem?_lt hi
    rw [hat i hlt]; simp [renStore, hi]
  let cx0 : Cx := { I := cx.I, F := fun j => cx.F j ∨ ∃ b m, cx.mu b = some m ∧ b ∉ ids ∧ m.blk = j, w := cx.w, mu := fun i => if i < ids.length then cx.mu (nth ids i) else none, A := fun i => i < ids.length ∧ cx.A (nth ids i), top := ids.length }
  have hmu0 : ∀ i m, cx0.mu i = some m → i < ids.length ∧ cx.mu (nth ids i) = some m := fun i m hm => by
    simp only [cx0] at hm
    split at hm
    · rename_i hi; exact ⟨hi, hm⟩
    · simp at hm
  have hmov : Moves cx cx0 (fun b => ids.idxOf b) (fun b => decide (b ∈ ids)) := ⟨fun _ h => h, fun _ _ => rfl, fun b hb hA => by
      have hb : b ∈ ids := by simpa using hb
      exact ⟨List.idxOf_lt_length_iff.2 hb, by rw [nth_idx hb]; exact hA⟩, fun b hb hA m hm => by
      have hb : b ∈ ids := by simpa using hb
      have := (hmu0 _ m hm).2; rw [nth_idx hb] at this; exact this⟩
  have hn0 : Now E cx0 σ0 := by
    refine ⟨by simp [cx0, hlen], fun b hb => by rw [hlen]; exact hb.1, fun k h => .inl (hn.IF k h), fun k h => ?_, fun i m hm => ?_, fun i blk hi => ?_, fun i i' m m' hi hi' he => ?_, fun i m hi => hn.base _ m (hmu0 i m hi).2⟩
    · rcases h with h | ⟨b, m, h1, _, h2⟩
      · exact hn.imm k h
      · obtain ⟨_, _, h3, _⟩ := hn.dom b m h1; exact h2 ▸ h3
    · obtain ⟨hi, hm'⟩ := hmu0 i m hm
      obtain ⟨blk, k1, k2, k3, k4⟩ := hn.dom _ m hm'
      have e0 := hat i hi
      rw [k1] at e0
      obtain ⟨ob, hob⟩ : ∃ ob, σ0[i]? = some ob := ⟨σ0[i]'(by rw [hlen]; exact hi), by rw [List.getElem?_eq_getElem]⟩
      simp only [renStore, List.getElem?_map, hob, Option.map_some, Option.some.injEq] at e0
      cases ob with
      | none => simp at e0
      | some blk0 =>
        simp only [Option.map_some, Option.some.injEq] at e0; subst e0
        refine ⟨blk0, hob, k2, ?_, ?_⟩
        · rintro (h | ⟨b, m2, h1, h2, h3⟩)
          · exact k3 h
          · exact h2 (hn.inj _ _ _ _ h1 hm' h3 ▸ nth_mem hi)
        · have := k4.ren (c' := cx0) (allBlk_ren hmem blk0 (hblk0 i blk0 hob)) hmov rfl
          rw [renBlk_renBlk hinv blk0 (hblk0 i blk0 hob)] at this
          exact this
    · have hi' := hblkσ i blk hi
      have hlt : i < ids.length := by rw [← hlen]; exact getElem?_lt hi
      obtain ⟨k1, m, k2⟩ := hn.live _ _ hi'
      exact ⟨⟨hlt, k1⟩, m, by simp only [cx0, if_pos hlt]; exact k2⟩
    · obtain ⟨a1, a2⟩ := hmu0 i m hi
      obtain ⟨b1, b2⟩ := hmu0 i' m' hi'
      have := hn.inj _ _ _ _ a2 b2 he
      rw [← idx_nth hnd a1, ← idx_nth hnd b1, this]
  have hv0 : VL E cx0 args vs.toList := by
    have := hv.ren (allL_renL hmem args hargs) hmov
    rw [renL_renL hinv args hargs] at this; exact this
  refine (h cx0 vs hn0 hv0).mono ?_
  rintro e w' ⟨re, σ1, cx1, rfl, h2, h3, h4, h5⟩
  have hk : ids.length ≤ σ1.length := by
    have h1 := h4.top
    have h2 : cx1.top = ids.length := h5.top
    omega
  have hsz : cx.w.heap.size ≤ cx1.w.heap.size := h5.size
  have hidlt : ∀ b ∈ ids, b < σ.length := fun b hb => by
    have hi := List.idxOf_lt_length_iff.2 hb
    have := hat _ hi
    rw [nth_idx hb] at this
    have hlt : ids.idxOf b < (renStore (nth ids) σ0).length := by simp [renStore, hlen]; exact hi
    rw [List.getElem?_eq_getElem hlt] at this
    exact getElem?_lt this
  obtain ⟨r, hr⟩ : ∃ r, kp ids σ.length = r := ⟨_, rfl⟩
  have r1 : ∀ b, b < ids.length → r b = nth ids b := fun b hb => by rw [← hr, kp, if_pos hb]
  have r2 : ∀ b, ids.length ≤ b → r b = σ.length + (b - ids.length) := fun b hb => by rw [← hr, kp, if_neg (by omega)]
  let cx' : Cx := { I := cx1.I, F := fun j => cx.F j ∨ cx1.I j, w := cx1.w, mu := fun b => if b ∈ ids then cx1.mu (ids.idxOf b) else if σ.length ≤ b then cx1.mu (ids.length + (b - σ.length)) else cx.mu b, A := fun b => cx.A b ∨ (σ.length ≤ b ∧ cx1.A (ids.length + (b - σ.length))), top := cx.top }
  have hmu' : ∀ b m, cx'.mu b = some m → (b ∈ ids ∧ cx1.mu (ids.idxOf b) = some m) ∨ (b ∉ ids ∧ σ.length ≤ b ∧ cx1.mu (ids.length + (b - σ.length)) = some m) ∨ (b ∉ ids ∧ b < σ.length ∧ cx.mu b = some m) := fun b m hm => by
    simp only [cx'] at hm
    split at hm
    · rename_i h; exact .inl ⟨h, hm⟩
    · rename_i h
      split at hm
      · rename_i h1; exact .inr (.inl ⟨h, h1, hm⟩)
      · rename_i h1; exact .inr (.inr ⟨h, by omega, hm⟩)
  have hmu1 : ∀ b m, cx'.mu b = some m → (∃ i, r i = b ∧ cx1.mu i = some m) ∨ (b ∉ ids ∧ b < σ.length ∧ cx.mu b = some m) := fun b m hm => by
    rcases hmu' b m hm with ⟨h1, h2⟩ | ⟨h1, h2, h3⟩ | h
    · exact .inl ⟨_, by rw [r1 _ (List.idxOf_lt_length_iff.2 h1), nth_idx h1], h2⟩
    · exact .inl ⟨_, by rw [r2 _ (by omega)]; omega, h3⟩
    · exact .inr h
  have hFin : ∀ j, cx.F j → cx1.F j := fun j hj => h5.F j (.inl hj)
  have hout : ∀ b m, b ∉ ids → cx.mu b = some m → cx1.F m.blk ∧ cx1.w.heap[m.blk]? = cx.w.heap[m.blk]? ∧ ¬ cx'.F m.blk := fun b m hb hm => by
    have hF0 : cx0.F m.blk := .inr ⟨b, m, hm, hb, rfl⟩
    obtain ⟨_, _, hlt, hF, _⟩ := hn.dom b m hm
    refine ⟨h5.F _ hF0, h5.keeps _ hF0, ?_⟩
    rintro (h | h)
    · exact hF h
    · rcases h5.grow _ h with h | h | ⟨x, mx, hx, he⟩
      · exact hF (hn.IF _ h)
      · exact absurd hlt (Nat.not_lt.2 h)
      · obtain ⟨a1, a2⟩ := hmu0 x mx hx
        exact hb (hn.inj _ _ _ _ a2 hm he ▸ nth_mem a1)
  have hin : ∀ i m, cx1.mu i = some m → ¬ cx'.F m.blk := fun i m hm => by
    obtain ⟨_, _, _, hF, _⟩ := h4.dom i m hm
    rintro (h | h)
    · exact hF (hFin _ h)
    · exact hF (h4.IF _ h)
  have hext : Ext cx cx' := ⟨fun k hk => h5.ext.I k hk, fun k hk => h5.keeps k (.inl (hn.IF k hk)), fun b h => .inl h, fun b hb m hm => by
    have hlt := hn.A b hb
    rcases hmu' b m hm with ⟨h1, h2⟩ | ⟨_, h2, _⟩ | ⟨h1, _, h2⟩
    · obtain ⟨m0, g1, g2⟩ := h5.ext.mu (ids.idxOf b) ⟨List.idxOf_lt_length_iff.2 h1, by rw [nth_idx h1]; exact hb⟩ m h2
      have := (hmu0 _ _ g1).2
      rw [nth_idx h1] at this
      exact ⟨m0, this, g2⟩
    · omega
    · exact ⟨m, h2, Nat.le_refl _, fun _ => rfl⟩⟩
  have hmov' : Moves cx1 cx' r (fun b => decide (b < σ1.length)) := ⟨fun k h => h, fun _ _ => rfl, fun b hb hA => by
      rcases Nat.lt_or_ge b ids.length with hlt | hge
      · rw [r1 b hlt]
        rcases h5.new b hA with h | h
        · exact .inl h.2
        · have : ids.length ≤ b := h
          omega
      · rw [r2 b hge]
        exact .inr ⟨by omega, by rw [show ids.length + (σ.length + (b - ids.length) - σ.length) = b by omega]; exact hA⟩, fun b hb hA m hm => by
      rcases Nat.lt_or_ge b ids.length with hlt | hge
      · rw [r1 b hlt] at hm
        rcases hmu' _ m hm with ⟨h1, h2⟩ | ⟨h1, _⟩ | ⟨h1, _⟩
        · rw [idx_nth hnd hlt] at h2; exact h2
        · exact absurd (nth_mem hlt) h1
        · exact absurd (nth_mem hlt) h1
      · rw [r2 b hge] at hm
        rcases hmu' _ m hm with ⟨h1, h2⟩ | ⟨_, _, h2⟩ | ⟨_, h1, _⟩
        · have := hidlt _ h1; omega
        · rw [show ids.length + (σ.length + (b - ids.length) - σ.length) = b by omega] at h2; exact h2
        · omega⟩
  have hblk1 : ∀ (i : Nat) (blk : Blk), σ1[i]? = some (some blk) → allBlk (fun b => decide (b < σ1.length)) blk = true := fun i blk h => List.all_eq_true.1 h4.allStore _ (List.mem_of_getElem? h)
  let σ' := neuS ids σ σ1
  have hσl : σ'.length = σ.length + (σ1.length - ids.length) := by
    show (putAll _ _ _ ++ _).length = _
    rw [List.length_append, putAll_len]; simp [renStore]
  have hat1 : ∀ i, i < σ1.length → σ'[r i]? = (σ1[i]?).map (fun x => x.map (renBlk r)) := fun i hi => by
    show (putAll σ ids (renStore (kp ids σ.length) (σ1.take ids.length)) ++ renStore (kp ids σ.length) (σ1.drop ids.length))[r i]? = _
    rw [hr]
    rcases Nat.lt_or_ge i ids.length with hlt | hge
    · rw [r1 i hlt, List.getElem?_append_left (by rw [putAll_len]; exact hidlt _ (nth_mem hlt))]
      rw [putAll_at ids _ σ i hnd hidlt hlt (by simp [renStore]; omega)]
      simp only [renStore, List.getElem?_map, List.getElem?_take, if_pos hlt]
    · rw [r2 i hge, List.getElem?_append_right (by rw [putAll_len]; omega), putAll_len]
      simp only [renStore, List.getElem?_map, List.getElem?_drop]
      rw [show ids.length + (σ.length + (i - ids.length) - σ.length) = i by omega]
  have hot' : ∀ b, b ∉ ids → b < σ.length → σ'[b]? = σ[b]? := fun b hb hlt => by
    show (putAll σ ids _ ++ _)[b]? = _
    rw [List.getElem?_append_left (by rw [putAll_len]; exact hlt)]
    exact putAll_other ids _ σ hb
  have hrlt : ∀ i m, cx1.mu i = some m → i < σ1.length := fun i m hm => by
    obtain ⟨blk, k1, _⟩ := h4.dom i m hm; exact getElem?_lt k1
  have hn' : Now E cx' σ' := by
    refine ⟨by have := hn.top; show cx.top ≤ _; omega, fun b hb => ?_, fun k h => .inr h, fun k h => ?_, fun b m hm => ?_, fun b blk hb => ?_, fun b b' m m' hb hb' he => ?_, fun b m hb => by
      rcases hmu1 b m hb with ⟨i, _, h2⟩ | ⟨_, _, h2⟩
      · exact h4.base _ m h2
      · exact hn.base _ m h2⟩
    · rcases hb with hb | ⟨h1, h2⟩
      · have := hn.A b hb; omega
      · have := h4.A _ h2; omega
    · rcases h with h | h
      · exact Nat.lt_of_lt_of_le (hn.imm k h) hsz
      · exact h4.immI k h
    · rcases hmu1 b m hm with ⟨i, rfl, h2⟩ | ⟨h1, hlt, h2⟩
      · obtain ⟨blk, k1, k2, k3, k4⟩ := h4.dom _ m h2
        have := hat1 i (hrlt i m h2)
        rw [k1] at this
        exact ⟨renBlk r blk, this, k2, hin _ m h2, k4.ren (hblk1 _ blk k1) hmov' rfl⟩
      · obtain ⟨blk, k1, k2, k3, k4⟩ := hn.dom b m h2
        obtain ⟨g1, g2, g3⟩ := hout b m h1 h2
        exact ⟨blk, (hot' b h1 hlt).trans k1, Nat.lt_of_lt_of_le k2 hsz, g3, k4.ext hext g2⟩
    · by_cases hb' : b ∈ ids
      · have hi := List.idxOf_lt_length_iff.2 hb'
        have e0 := hat1 _ (Nat.lt_of_lt_of_le hi hk)
        rw [r1 _ hi, nth_idx hb', hb] at e0
        cases h1 : σ1[ids.idxOf b]? with
        | none => rw [h1] at e0; simp at e0
        | some ob =>
          cases ob with
          | none => rw [h1] at e0; simp at e0
          | some blk1 =>
            obtain ⟨k1, m, k2⟩ := h4.live _ blk1 h1
            have hA := h5.new _ k1
            refine ⟨.inl ?_, m, by simp only [cx', if_pos hb']; exact k2⟩
            rcases hA with hA | hA
            · have := hA.2; rw [nth_idx hb'] at this; exact this
            · have : ids.length ≤ ids.idxOf b := hA
              omega
      · rcases Nat.lt_or_ge b σ.length with hlt | hge
        · rw [hot' b hb' hlt] at hb
          obtain ⟨k1, m, k2⟩ := hn.live b blk hb
          exact ⟨.inl k1, m, by simp only [cx', if_neg hb', if_neg (Nat.not_le.2 hlt)]; exact k2⟩
        · have hbl : b < σ'.length := getElem?_lt hb
          have e0 := hat1 (ids.length + (b - σ.length)) (by omega)
          rw [r2 _ (by omega), show σ.length + (ids.length + (b - σ.length) - ids.length) = b by omega, hb] at e0
          cases h1 : σ1[ids.length + (b - σ.length)]? with
          | none => rw [h1] at e0; simp at e0
          | some ob =>
            cases ob with
            | none => rw [h1] at e0; simp at e0
            | some blk1 =>
              obtain ⟨k1, m, k2⟩ := h4.live _ blk1 h1
              exact ⟨.inr ⟨hge, k1⟩, m, by simp only [cx', if_neg hb', if_pos hge]; exact k2⟩
    · rcases hmu1 b m hb with ⟨i, rfl, h2⟩ | ⟨h1, _, h2⟩ <;> rcases hmu1 b' m' hb' with ⟨i', rfl, g2⟩ | ⟨g1, _, g2⟩
      · rw [h4.inj _ _ _ _ h2 g2 he]
      · obtain ⟨_, _, _, hF, _⟩ := h4.dom _ m h2
        exact absurd ((hout b' m' g1 g2).1) (he ▸ hF)
      · obtain ⟨_, _, _, hF, _⟩ := h4.dom _ m' g2
        exact absurd ((hout b m h1 h2).1) (he ▸ hF)
      · exact hn.inj _ _ _ _ h2 g2 he
  have hs' : Step cx cx' := by
    refine ⟨hext, fun k h => .inl h, fun k hk => h5.keeps k (.inl hk), fun k hk => ?_, fun b m hm => ?_, rfl, fun b h => ?_, h5.size, h5.os, h5.tape, h5.output⟩
    · rcases h5.grow k hk with h | h | ⟨x, mx, hx, he⟩
      · exact .inl h
      · exact .inr (.inl h)
      · exact .inr (.inr ⟨_, mx, (hmu0 x mx hx).2, he⟩)
    · rcases hmu1 b m hm with ⟨i, _, h2⟩ | ⟨h1, _, h2⟩
      · rcases h5.muold _ m h2 with h | ⟨x, mx, hx, he⟩
        · exact .inl h
        · exact .inr ⟨_, mx, (hmu0 x mx hx).2, he⟩
      · exact .inr ⟨b, m, h2, rfl⟩
    · rcases h with h | ⟨h, _⟩
      · exact .inl h
      · exact .inr (Nat.le_trans hn.top h)
  cases re with
  | ret x =>
    cases e <;> simp only [ReOK] at h3
    exact ⟨.ret (ren r x), σ', cx', rfl, by have h2' : R (.ret (ren (kp ids σ.length) x)) (neuS ids σ σ1) := h2
                                            rw [hr] at h2'; exact h2', VL.ren (xs := [x]) h3 (h3.allL h4.A) hmov', hn', hs'⟩
  | pan x =>
    cases e <;> simp only [ReOK] at h3
    obtain ⟨v, hch, h3⟩ := h3
    exact ⟨.pan (ren r x), σ', cx', rfl, by have h2' : R (.pan (ren (kp ids σ.length) x)) (neuS ids σ σ1) := h2
                                            rw [hr] at h2'; exact h2', ⟨v, hch, VL.ren (xs := [x]) h3 (h3.allL h4.A) hmov'⟩, hn', hs'⟩
end
section
variable {E : Env} {N z : Nat} {Q : Post} {fr : Fr} {σ : Store}
theorem T_frzp (O : E.OK) {c : Code} {fr' : Fr} {σ' : Store} (p : Nat → Bool) (ts : List Nat) (hfr : Fr.keep ts fr = fr') (hk : KeepS p σ 0 σ σ') (h : T E N z c Q fr' σ') : T E N z c Q fr σ := fun cx a ht hn hf => by
 obtain ⟨hn', hs⟩ := hn.keep O p hk
 have hf0 := hf.keep ts
 have hf' : FR E (cx.frzP p) N fr' a.tmps := ⟨hf0.1, fun t x hx => by
  obtain ⟨h2, h3⟩ := hf0.2 t x (by rw [hfr]; exact hx)
  exact ⟨h2, h3.ext (Cx.frzP_ext cx p)⟩⟩
 have hs' : Step (cx.below z) (cx.frzP p) := ⟨⟨fun _ h => .inl h, fun _ _ => rfl, fun b hb => hb.1, fun b hb m hm => ⟨m, (Cx.frzP_mu hm).2, Nat.le_refl _, fun _ => rfl⟩⟩, fun _ h => .inl h, fun _ _ => rfl, hs.grow,
  fun b m hm => .inr ⟨b, m, (Cx.frzP_mu hm).2, rfl⟩, rfl, fun b hb => by
   rcases Nat.lt_or_ge b z with h1 | h1
   ·exact .inl ⟨hb, h1⟩
   ·exact .inr (Nat.le_trans ht h1), Nat.le_refl _, rfl, rfl, rfl⟩
 exact wr_mono (h (cx.frzP p) a ht hn' hf') fun e a w => Lift.step hs'
end
end Go.Proofs.YtdplbgfokoajjaaGreat
end
section
set_option maxRecDepth 20000
set_option linter.unusedVariables false
namespace Go.Proofs.YtdplbgfokoajjaaGreat
open Go
theorem w_backk {E : Env} {N z : Nat} {Q : Post} {fr fr' : Fr} {σ : Store} {k : List It} {c : Code} (ts : List Nat) (hf : Fr.keep ts fr = fr') (h : TL E N z c (SP E N z Q k) fr' σ) : SP E N z Q (.head c :: k) .normal fr σ := TL_keep ts (by rw [hf]; exact h)
end Go.Proofs.YtdplbgfokoajjaaGreat
end
