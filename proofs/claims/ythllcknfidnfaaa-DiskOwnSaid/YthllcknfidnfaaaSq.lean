/- Regions as one proposition that reckons. -/
import Derived.Test.YthllcknfidnfaaaSpb
set_option linter.unusedVariables false
set_option linter.unusedSimpArgs false
namespace Go.Proofs.Ythllcknfidnfaaa
open Go

/-- Whom a call calls, with what. -/
def sCallee (E : Env) (fr : Fr) (c : Call) : Option (FuncId × List PV) :=
  match c.callee with
  | .value f => match Fr.eval fr f, c.args.toList.mapM (Fr.eval fr) with
    | some (.fn (.func g) xs ys), some vs => if E.fk g then some (g, xs ++ vs ++ ys) else none
    | _, _ => none
  | _ => none

def isCall : Op → Option Call
  | .call c => match c.callee with | .builtin _ => none | _ => some c
  | _ => none

/-- Operations in the text's order, reckoned. -/
def RF (E : Env) (ops : Array Oper) (Q : Post) (K : Fr → Store → Prop) : List Oper → Fr → Store → Prop
  | [], fr, σ => K fr σ
  | o :: os, fr, σ =>
    match sGuard ops o fr with
    | some true => (match isCall o.op with
      | some c => (match sCallee E fr c with
        | some (g, vs) => C E g vs σ (afterCall Q (RF E ops Q K os) o.dst fr)
        | none => False)
      | none => (match nilCmp E o.op fr σ with
        | some bs => ∀ b ∈ bs, RF E ops Q K os (Fr.put fr o.dst b) σ
        | none => (match sop E o.op fr σ σ.length with
          | some (v, σ') => RF E ops Q K os (Fr.put fr o.dst v) σ'
          | none => False)))
    | some false => RF E ops Q K os (Fr.put fr o.dst (.tup [])) σ
    | none => False

/-- Behind a call, the operations that are left. -/
def afterRF (E : Env) (ops : Array Oper) (Q : Post) (K : Fr → Store → Prop) (os : List Oper) (d : Option Tmp) (fr : Fr) (re : Re) (σ : Store) : Prop :=
  afterCall Q (RF E ops Q K os) d fr re σ

section
variable {E : Env} {N z : Nat} {Q : Post} {fr : Fr} {σ : Store}

theorem RF_nil {ops : Array Oper} {K : Fr → Store → Prop} : RF E ops Q K [] fr σ = K fr σ := by simp [RF]
theorem RF_cons {ops : Array Oper} {K : Fr → Store → Prop} {o : Oper} {os : List Oper} : RF E ops Q K (o :: os) fr σ =
    match sGuard ops o fr with
    | some true => (match isCall o.op with
      | some c => (match sCallee E fr c with
        | some (g, vs) => C E g vs σ (afterRF E ops Q K os o.dst fr)
        | none => False)
      | none => (match nilCmp E o.op fr σ with
        | some bs => ∀ b ∈ bs, RF E ops Q K os (Fr.put fr o.dst b) σ
        | none => (match sop E o.op fr σ σ.length with
          | some (v, σ') => RF E ops Q K os (Fr.put fr o.dst v) σ'
          | none => False)))
    | some false => RF E ops Q K os (Fr.put fr o.dst (.tup [])) σ
    | none => False := by rw [RF]; rfl
theorem afterRF_ret {ops : Array Oper} {K : Fr → Store → Prop} {os : List Oper} {d : Option Tmp} {v : PV} : afterRF E ops Q K os d fr (.ret v) σ = RF E ops Q K os (Fr.put fr d v) σ := rfl
theorem afterRF_pan {ops : Array Oper} {K : Fr → Store → Prop} {os : List Oper} {d : Option Tmp} {x : PV} : afterRF E ops Q K os d fr (.pan x) σ = Q (.pan x) fr σ := rfl

theorem afterCall.mono {K K' : Fr → Store → Prop} (hk : ∀ fr σ, K fr σ → K' fr σ) {d : Option Tmp} {re : Re} (h : afterCall Q K d fr re σ) : afterCall Q K' d fr re σ := by
  cases re with
  | ret v => exact hk _ _ h
  | pan x => exact h

theorem ROps_of_RF (O : E.OK) {ops : Array Oper} {K : Fr → Store → Prop} : ∀ (os : List Oper) (fr : Fr) (σ : Store), (∀ o ∈ os, ∀ t, o.dst = some t → t < N) → RF E ops Q K os fr σ → ROps E N z ops Q K os fr σ
  | [], fr, σ, hd, h => h
  | o :: os, fr, σ, hd, h => by
    have ih := fun fr σ => ROps_of_RF O (ops := ops) (K := K) os fr σ fun o ho => hd o (by simp [ho])
    unfold RF at h
    split at h
    · rename_i hg
      refine ⟨true, hg, ?_⟩
      simp only [if_true]
      split at h
      · rename_i c hc
        have ho : o.op = .call c := by
          unfold isCall at hc
          split at hc
          · split at hc
            · simp at hc
            · simp only [Option.some.injEq] at hc; subst hc; assumption
          · simp at hc
        split at h
        · rename_i g vs hcal
          unfold sCallee at hcal
          split at hcal
          · rename_i f hf
            split at hcal
            · rename_i g' xs ys ws h1 h2
              split at hcal
              · rename_i hk
                simp only [Option.some.injEq, Prod.mk.injEq] at hcal; obtain ⟨rfl, rfl⟩ := hcal
                exact OpW_call O ho hf h1 h2 hk (hd o (by simp)) (h.mono fun re σ => afterCall.mono fun fr σ => ih fr σ)
              · simp at hcal
            · simp at hcal
          · simp at hcal
        · exact h.elim
      · split at h
        · rename_i bs hbs
          exact OpW_nilCmp O hbs (hd o (by simp)) fun b hb => ih _ _ (h b hb)
        · split at h
          · rename_i v σ' hs
            exact OpW_yld (Nat.le_refl _) (sop_ok O hs) (hd o (by simp)) (ih _ _ h)
          · exact h.elim
    · rename_i hg
      exact ⟨false, hg, by simpa using ih _ _ h⟩
    · exact h.elim

theorem T_reg (O : E.OK) {id : Nat} {ops : Array Oper} (hd : (ops.toList.all fun o => match o.dst with | some t => decide (t < N) | none => true) = true) (h : RF E ops Q (Q .normal) ops.toList fr σ) : T E N z (.region id ops false) Q fr σ :=
  T_region hd (ROps_of_RF O ops.toList fr σ (fun o ho t ht => by
    have := List.all_eq_true.1 hd o ho
    rw [ht] at this; simpa using this) h)

/-- The rules with what follows under a name: so that no term is written twice. -/
theorem T_seqk {x y : Code} (h : ∀ K : Fr → Store → Prop, (∀ fr σ, T E N z y Q fr σ → K fr σ) → T E N z x (Post.seq K Q) fr σ) : T E N z (.seq x y) Q fr σ := T_seq (h _ fun _ _ h => h)
theorem T_blockk {id : Nat} {c : Code} (h : ∀ Q' : Post, (∀ e fr σ, Post.block id Q e fr σ → Q' e fr σ) → T E N z c Q' fr σ) : T E N z (.block id c) Q fr σ := T_block (h _ fun _ _ _ h => h)
theorem C_bodyk (O : E.OK) {f : FuncId} {fn : Func} {c : Code} {args : List PV} {R : Re → Store → Prop} (hfn : E.P.funcs[f]? = some fn) (hb : fn.body = some c) (hl : args.length ≤ fn.ntmps)
    (h : ∀ R' : Re → Store → Prop, (∀ re σ, R re σ → R' re σ) → T E fn.ntmps σ.length c (bodyQ E fn.results.toList R') (Fr.args 0 args) σ) : C E f args σ R := C_body O hfn hb hl (h R fun _ _ h => h)

end
end Go.Proofs.Ythllcknfidnfaaa
