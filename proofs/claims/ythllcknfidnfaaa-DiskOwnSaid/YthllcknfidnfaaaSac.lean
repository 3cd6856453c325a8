/- Regions that draw their order, reckoned. -/
import Derived.Test.YthllcknfidnfaaaSab
set_option linter.unusedVariables false
set_option linter.unusedSimpArgs false
namespace Go.Proofs.Ythllcknfidnfaaa
open Go
section
variable {E : Env} {fr : Fr} {σ : Store} {ops : Array Oper} {tab : Tab} {base i : Nat} {K : Fr → Store → Prop} {acc : List (Nat × List Nat × Option Nat)}
theorem RD_nil : RD E ops tab base K i [] fr σ acc = K fr σ := by simp [RD]
/-- A call among them. -/
def RDcall (E : Env) (tab : Tab) (i : Nat) (acc : List (Nat × List Nat × Option Nat)) (σ : Store) (g : FuncId) (vs : List PV) (M : List Nat → PV → Prop) : Prop :=
  ∃ rd v, noConf tab i acc rd none = true ∧ (∀ τ, (∀ b ∈ rd, Store.at τ b = Store.at σ b) → C E g vs τ fun re τ' => re = .ret v ∧ τ' = τ) ∧ M rd v
theorem RD_call {g : FuncId} {vs : List PV} {M : List Nat → PV → Prop} {rd : List Nat} {v : PV} (h1 : ∀ τ, (∀ b ∈ rd, Store.at τ b = Store.at σ b) → C E g vs τ fun re τ' => re = .ret v ∧ τ' = τ) (h2 : noConf tab i acc rd none = true ∧ M rd v) : RDcall E tab i acc σ g vs M :=
  ⟨rd, v, h2.1, h1, h2.2⟩
theorem RD_cons {o : Oper} {os : List Oper} : RD E ops tab base K i (o :: os) fr σ acc =
    match sGuard ops o fr with
    | some true => (match isCall o.op with
      | some c => (match sCallee E fr c with
        | some (g, vs) => RDcall E tab i acc σ g vs fun rd v => RD E ops tab base K (i + 1) os (Fr.put fr o.dst v) σ (accAdd i rd none acc)
        | none => False)
      | none => (match sop E o.op fr σ (base + tab.slot i) with
        | some (v, σ') => noConf tab i acc (foot o.op fr) (wid o.op fr (base + tab.slot i) v) = true ∧ RD E ops tab base K (i + 1) os (Fr.put fr o.dst v) σ' (accAdd i (foot o.op fr) (wid o.op fr (base + tab.slot i) v) acc)
        | none => False))
    | some false => RD E ops tab base K (i + 1) os (Fr.put fr o.dst (.tup [])) σ acc
    | none => False := by rw [RD]; rfl
theorem frz_row {b g ty off len n : Nat} {xs : List PV} (h : Store.at σ b = some (.cells ty g xs)) (hl : off + len ≤ xs.length) (hx : ∀ x ∈ xs, frz σ n x = some x) : frz σ (n + 1) (.ref b g off len) = some (.lit ((xs.drop off).take len)) := by
  have : ((xs.drop off).take len).mapM (frz σ n) = some ((xs.drop off).take len) := mapM_same fun a ha => hx a (List.mem_of_mem_drop (List.mem_of_mem_take ha))
  simp only [frz, h, true_and, hl, if_true, this, Option.map_some]
theorem T_cond_t {N z : Nat} {Q : Post} {t : Nat} {x y : Code} (hg : Fr.get fr t = some (.bool true)) (h1 : T E N z x Q fr σ) : T E N z (.cond (.tmp t) x y) Q fr σ := T_cond hg (fun _ => h1) (by simp)
theorem T_cond_f {N z : Nat} {Q : Post} {t : Nat} {x y : Code} (hg : Fr.get fr t = some (.bool false)) (h1 : T E N z y Q fr σ) : T E N z (.cond (.tmp t) x y) Q fr σ := T_cond hg (by simp) (fun _ => h1)
end
end Go.Proofs.Ythllcknfidnfaaa
