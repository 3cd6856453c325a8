/- Regions that draw their order: the rule. -/
import Derived.Test.YthllcknfidnfaaaSu
set_option linter.unusedVariables false
set_option linter.unusedSimpArgs false
namespace Go.Proofs.Ythllcknfidnfaaa
open Go

def dstOf (ops : Array Oper) (j : Nat) : Option Tmp := (ops[j]?).bind (·.dst)
def frM (ops : Array Oper) (rs : List Rec) (L : Nat → Bool) (fr : Fr) : Nat → Fr
  | 0 => fr
  | k + 1 => if L k then Fr.put (frM ops rs L fr k) (dstOf ops k) (rs.getD k default).v else frM ops rs L fr k
def stM (rs : List Rec) (L : Nat → Bool) (σ : Store) : Nat → Store
  | 0 => σ
  | k + 1 => if L k then (stM rs L σ k).wr (rs.getD k default).w else stM rs L σ k

def allT : Nat → Bool := fun _ => true

section
variable {E : Env} {N z : Nat} {Q : Post} {ops : Array Oper} {tab : Tab} {base m : Nat}

theorem frM_congr {rs rs' : List Rec} {L L' : Nat → Bool} {fr : Fr} : ∀ n, (∀ k < n, rs.getD k default = rs'.getD k default) → (∀ k < n, L k = L' k) → frM ops rs L fr n = frM ops rs' L' fr n
  | 0, _, _ => rfl
  | n + 1, h, k => by simp only [frM]; rw [frM_congr n (fun i hi => h i (by omega)) (fun i hi => k i (by omega)), h n (by omega), k n (by omega)]
theorem stM_congr {rs rs' : List Rec} {L L' : Nat → Bool} {σ : Store} : ∀ n, (∀ k < n, rs.getD k default = rs'.getD k default) → (∀ k < n, L k = L' k) → stM rs L σ n = stM rs' L' σ n
  | 0, _, _ => rfl
  | n + 1, h, k => by simp only [stM]; rw [stM_congr n (fun i hi => h i (by omega)) (fun i hi => k i (by omega)), h n (by omega), k n (by omega)]
theorem wr_len (σ : Store) (w : Option (Nat × Blk)) : (σ.wr w).length = σ.length := by cases w <;> simp [Store.wr]
theorem stM_len (rs : List Rec) (L : Nat → Bool) (σ : Store) : ∀ n, (stM rs L σ n).length = σ.length
  | 0 => rfl
  | n + 1 => by simp only [stM]; split <;> simp [wr_len, stM_len rs L σ n]

structure Trace (E : Env) (N : Nat) (ops : Array Oper) (tab : Tab) (base : Nat) (fr : Fr) (σ : Store) (rs : List Rec) : Prop where
  ok : ∀ i, i < rs.length → ∃ o, ops[i]? = some o ∧ RecOK E N ops tab base i o (rs.getD i default) (frM ops rs allT fr i) (stM rs allT σ i)
  conf : ∀ i j, j < i → i < rs.length → j ∈ tab.pr i ∨ clear (rs.getD i default).rd ((rs.getD i default).w.map (·.1)) (rs.getD j default).rd ((rs.getD j default).w.map (·.1)) = true

theorem getD_snoc_lt {rs : List Rec} {r : Rec} {k : Nat} (h : k < rs.length) : (rs ++ [r]).getD k default = rs.getD k default := by simp [List.getElem?_append_left h]
theorem getD_snoc (rs : List Rec) (r : Rec) : (rs ++ [r]).getD rs.length default = r := by simp

theorem Trace.snoc {fr : Fr} {σ : Store} {rs : List Rec} (t : Trace E N ops tab base fr σ rs) {o : Oper} {r : Rec} (ho : ops[rs.length]? = some o) (h : RecOK E N ops tab base rs.length o r (frM ops rs allT fr rs.length) (stM rs allT σ rs.length))
    (hc : ∀ j, j < rs.length → j ∈ tab.pr rs.length ∨ clear r.rd (r.w.map (·.1)) (rs.getD j default).rd ((rs.getD j default).w.map (·.1)) = true) : Trace E N ops tab base fr σ (rs ++ [r]) := by
  have hf : ∀ n, n ≤ rs.length → frM ops (rs ++ [r]) allT fr n = frM ops rs allT fr n := fun n hn => frM_congr n (fun k hk => getD_snoc_lt (by omega)) fun _ _ => rfl
  have hs : ∀ n, n ≤ rs.length → stM (rs ++ [r]) allT σ n = stM rs allT σ n := fun n hn => stM_congr n (fun k hk => getD_snoc_lt (by omega)) fun _ _ => rfl
  refine ⟨fun i hi => ?_, fun i j hji hi => ?_⟩
  · simp only [List.length_append, List.length_singleton] at hi
    rcases Nat.lt_or_ge i rs.length with h1 | h1
    · rw [hf i (by omega), hs i (by omega), getD_snoc_lt h1]; exact t.ok i h1
    · have : i = rs.length := by omega
      subst this
      rw [hf _ (Nat.le_refl _), hs _ (Nat.le_refl _), getD_snoc]; exact ⟨o, ho, h⟩
  · simp only [List.length_append, List.length_singleton] at hi
    rcases Nat.lt_or_ge i rs.length with h1 | h1
    · rw [getD_snoc_lt h1, getD_snoc_lt (by omega)]; exact t.conf i j hji h1
    · have : i = rs.length := by omega
      subst this
      rw [getD_snoc, getD_snoc_lt hji]; exact hc j hji

theorem frM_snoc {fr : Fr} {rs : List Rec} {r : Rec} {o : Oper} (ho : ops[rs.length]? = some o) : frM ops (rs ++ [r]) allT fr (rs.length + 1) = Fr.put (frM ops rs allT fr rs.length) o.dst r.v := by
  simp only [frM]
  rw [frM_congr rs.length (fun k hk => getD_snoc_lt (r := r) hk) (fun _ _ => rfl), getD_snoc, dstOf, ho]; rfl
theorem stM_snoc {σ : Store} {rs : List Rec} {r : Rec} : stM (rs ++ [r]) allT σ (rs.length + 1) = (stM rs allT σ rs.length).wr r.w := by
  simp only [stM]
  rw [stM_congr rs.length (fun k hk => getD_snoc_lt (r := r) hk) (fun _ _ => rfl), getD_snoc]; rfl

theorem RD_trace (O : E.OK) (hsl : ∀ i, i < ops.size → tab.slot i < ops.size) {fr : Fr} {σ : Store} (hσ : σ.length = base + ops.size) {K : Fr → Store → Prop} : ∀ (os : List Oper) (rs : List Rec) (acc : List (Nat × List Nat × Option Nat)),
    Trace E N ops tab base fr σ rs → (∀ k o, os[k]? = some o → ops[rs.length + k]? = some o) →
    (∀ j, j < rs.length → ((rs.getD j default).rd = [] ∧ (rs.getD j default).w = none) ∨ (j, (rs.getD j default).rd, (rs.getD j default).w.map (·.1)) ∈ acc) →
    RD E ops tab base K rs.length os (frM ops rs allT fr rs.length) (stM rs allT σ rs.length) acc →
    ∃ rs', rs'.length = rs.length + os.length ∧ Trace E N ops tab base fr σ rs' ∧ K (frM ops rs' allT fr rs'.length) (stM rs' allT σ rs'.length)
  | [], rs, acc, t, ho, ha, h => ⟨rs, rfl, t, h⟩
  | o :: os, rs, acc, t, ho, ha, h => by
    have ho0 : ops[rs.length]? = some o := ho 0 o rfl
    have hlt : rs.length < ops.size := by
      rcases Nat.lt_or_ge rs.length ops.size with h | h
      · exact h
      · simp [Array.getElem?_eq_none h] at ho0
    have go : ∀ (r : Rec) (acc' : List (Nat × List Nat × Option Nat)), RecOK E N ops tab base rs.length o r (frM ops rs allT fr rs.length) (stM rs allT σ rs.length) → noConf tab rs.length acc r.rd (r.w.map (·.1)) = true → acc' = accAdd rs.length r.rd (r.w.map (·.1)) acc →
        RD E ops tab base K (rs.length + 1) os (Fr.put (frM ops rs allT fr rs.length) o.dst r.v) ((stM rs allT σ rs.length).wr r.w) acc' →
        ∃ rs', rs'.length = rs.length + (o :: os).length ∧ Trace E N ops tab base fr σ rs' ∧ K (frM ops rs' allT fr rs'.length) (stM rs' allT σ rs'.length) := fun r acc' h1 h2 h3 h4 => by
      have t' : Trace E N ops tab base fr σ (rs ++ [r]) := t.snoc ho0 h1 fun j hj => by
        rcases ha j hj with ⟨e1, e2⟩ | hm
        · right; rw [e1, e2]; simp only [clear, Option.map_none]; cases r.w.map (·.1) <;> simp
        · have := List.all_eq_true.1 h2 _ hm
          simp only [Bool.or_eq_true, List.contains_iff_mem] at this
          exact this
      have hl : (rs ++ [r]).length = rs.length + 1 := by simp
      obtain ⟨rs', a1, a2, a3⟩ := RD_trace O hsl hσ os (rs ++ [r]) acc' t' (fun k o' hk => by
          rw [hl, show rs.length + 1 + k = rs.length + (k + 1) by omega]; exact ho (k + 1) o' hk) (fun j hj => by
          rw [hl] at hj
          rcases Nat.lt_or_ge j rs.length with h5 | h5
          · rw [getD_snoc_lt h5]
            rcases ha j h5 with h6 | h6
            · exact .inl h6
            · right; rw [h3]; unfold accAdd; split
              · exact h6
              · exact List.mem_cons_of_mem _ h6
          · have : j = rs.length := by omega
            subst this
            rw [getD_snoc, h3]; unfold accAdd; split
            · rename_i h7
              simp only [Bool.and_eq_true, List.isEmpty_iff, Option.isNone_iff_eq_none, Option.map_eq_none_iff] at h7
              exact .inl h7
            · exact .inr (List.mem_cons_self ..)) (by
          rw [hl, frM_snoc ho0, stM_snoc]; exact h4)
      exact ⟨rs', by rw [a1, hl]; simp only [List.length_cons]; omega, a2, a3⟩
    unfold RD at h
    split at h
    · rename_i hg
      split at h
      · rename_i c hc
        split at h
        · rename_i g vs hcal
          obtain ⟨rd, v, h1, h2, h3⟩ := h
          exact go ⟨v, none, rd⟩ _ (RecOK_call O hg hc hcal h2) h1 rfl h3
        · exact h.elim
      · split at h
        · rename_i v σ' hs
          obtain ⟨h1, h2⟩ := h
          obtain ⟨w, e1, e2, e3⟩ := RecOK_op (N := N) O hg hs (by rw [stM_len]; exact hσ) (hsl _ hlt)
          exact go ⟨v, w, foot o.op _⟩ _ e3 (by rw [e1]; exact h1) rfl (by rw [← e2, e1]; exact h2)
        · exact h.elim
    · rename_i hg
      exact go ⟨.tup [], none, []⟩ acc (RecOK_skip hg) (by
        unfold noConf clear
        rw [List.all_eq_true]; intro p hp
        cases p.2.2 <;> simp) (by simp [accAdd]) (by simpa [Store.wr] using h)
    · exact h.elim

end
end Go.Proofs.Ythllcknfidnfaaa
