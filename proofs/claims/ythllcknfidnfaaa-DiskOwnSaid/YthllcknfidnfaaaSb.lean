/- Lemmas on the relation: its cells, its staying, parts of values. -/
import Derived.Test.YthllcknfidnfaaaSa
set_option linter.unusedVariables false
namespace Go.Proofs.Ythllcknfidnfaaa
open Go

/-- What stays from one moment to a later one. -/
structure Ext (c c' : Cx) : Prop where
  I : ∀ k, c.I k → c'.I k
  keeps : ∀ k, c.I k → c'.w.heap[k]? = c.w.heap[k]?
  A : ∀ b, c.A b → c'.A b
  mu : ∀ b, c.A b → ∀ m', c'.mu b = some m' → ∃ m, c.mu b = some m ∧ m.gen ≤ m'.gen ∧ (m'.gen = m.gen → m' = m)

theorem Ext.refl (c : Cx) : Ext c c := ⟨fun _ h => h, fun _ _ => rfl, fun _ h => h, fun _ _ m h => ⟨m, h, Nat.le_refl _, fun _ => rfl⟩⟩

theorem Ext.trans {a b c : Cx} (h : Ext a b) (k : Ext b c) : Ext a c :=
  ⟨fun i hi => k.I i (h.I i hi), fun i hi => (k.keeps i (h.I i hi)).trans (h.keeps i hi), fun i hi => k.A i (h.A i hi), fun i hi m'' hm => by
    obtain ⟨m', h1, h2, h3⟩ := k.mu i (h.A i hi) m'' hm
    obtain ⟨m, k1, k2, k3⟩ := h.mu i hi m' h1
    refine ⟨m, k1, Nat.le_trans k2 h2, fun e => ?_⟩
    have e1 : m''.gen = m'.gen := by omega
    have e2 : m'.gen = m.gen := by omega
    rw [h3 e1, k3 e2]⟩

theorem Ext.pure {a b : Cx} (h : Ext a b) : Ext a.pure b.pure := ⟨h.I, h.keeps, fun i hi => by simp [Cx.pure] at hi, fun i hi => by simp [Cx.pure] at hi⟩

theorem Ext.at {c c' : Cx} (e : Ext c c') {b g : Nat} (hb : c.A b) (hle : ∀ m, c.mu b = some m → g ≤ m.gen) {m' : MB} (hm : c'.mu b = some m') (hg : m'.gen = g) : c.mu b = some m' := by
  obtain ⟨m, k1, k2, k3⟩ := e.mu b hb m' hm
  have := hle m k1
  rw [k3 (by omega)]; exact k1

theorem Ext.le {c c' : Cx} (e : Ext c c') {b g : Nat} (hb : c.A b) (hle : ∀ m, c.mu b = some m → g ≤ m.gen) {m' : MB} (hm : c'.mu b = some m') : g ≤ m'.gen := by
  obtain ⟨m, k1, k2, k3⟩ := e.mu b hb m' hm
  exact Nat.le_trans (hle m k1) k2

mutual
theorem VC.ext {E : Env} {c c' : Cx} {x : PV} {cs : List Value} (h : VC E c x cs) (e : Ext c c') : VC E c' x cs :=
  match h with
  | .bool b => .bool b
  | .int k n => .int k n
  | .str s => .str s
  | .nilp => .nilp
  | .ptr b g i p v h1 hb hle h => .ptr b g i p v h1 (e.A b hb) (fun m' hm => e.le hb hle hm) fun m' hm hg => h _ (e.at hb hle hm hg) hg
  | .laddr x k o cs ca t fz hI hw hx hwin => .laddr x k o cs ca t fz (e.I _ hI) ((e.keeps _ hI).trans hw) (hx.ext e) hwin
  | .nils a => .nils a
  | .lit0 a n => .lit0 a n
  | .lit xs T k o cap cs ca t fz hI hw hx hwin hcap => .lit xs T k o cap cs ca t fz (e.I _ hI) ((e.keeps _ hI).trans hw) (hx.ext e.pure) hwin hcap
  | .ref b g off len v h1 hb hle h => .ref b g off len v h1 (e.A b hb) (fun m' hm => e.le hb hle hm) fun m' hm hg => h _ (e.at hb hle hm hg) hg
  | .nilm => .nilm
  | .map b v h1 hb h => .map b v h1 (e.A b hb) fun m' hm hg => h _ (e.at (g := 0) hb (fun _ _ => Nat.zero_le _) hm hg) hg
  | .nilf => .nilf
  | .fn f first cap vs us h1 h2 => .fn f first cap vs us (h1.ext e) (h2.ext e)
  | .nili => .nili
  | .ifaceA t u fs cs h => .ifaceA t u fs cs (h.ext e)
  | .ifaceS t x v h1 h => .ifaceS t x v h1 (h.ext e)
  | .agg t fs cs h => .agg t fs cs (h.ext e)
theorem VCs.ext {E : Env} {c c' : Cx} {Ts : List TypeId} {xs : List PV} {cs : List Value} (h : VCs E c Ts xs cs) (e : Ext c c') : VCs E c' Ts xs cs :=
  match h with
  | .nil => .nil
  | .cons hf h hs => .cons hf (h.ext e) (hs.ext e)
theorem VL.ext {E : Env} {c c' : Cx} {xs : List PV} {vs : List Value} (h : VL E c xs vs) (e : Ext c c') : VL E c' xs vs :=
  match h with
  | .nil => .nil
  | .undef hs => .undef (hs.ext e)
  | .one h1 hn h hs => .one h1 hn (h.ext e) (hs.ext e)
  | .agg h hs => .agg (h.ext e) (hs.ext e)
  | .tup h hs => .tup (h.ext e) (hs.ext e)
end

end Go.Proofs.Ythllcknfidnfaaa
