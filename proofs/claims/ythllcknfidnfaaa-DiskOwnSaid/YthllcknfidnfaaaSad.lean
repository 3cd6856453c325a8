/- Pieces for a walk that is partly the machine's own: a loop over a map. -/
import Derived.Test.YthllcknfidnfaaaSac
import Derived.Maps.RangeWalk
set_option linter.unusedVariables false
set_option linter.unusedSimpArgs false
namespace Go.Proofs.Ythllcknfidnfaaa
open Go

def Cx.bare (c : Cx) (w : World) : Cx := { I := c.I, F := fun k => k < w.heap.size, w := w, mu := fun _ => none, A := fun _ => False, top := 0 }

section
variable {E : Env} {N z : Nat} {Q : Post} {fr : Fr} {σ : Store}
theorem Now.bare {c : Cx} {w : World} (hI : ∀ k, c.I k → k < w.heap.size) : Now E (c.bare w) [] :=
  ⟨Nat.zero_le _, fun _ h => h.elim, hI, fun _ h => h, fun _ _ h => by simp [Cx.bare] at h, fun _ _ h => by simp at h, fun _ _ _ _ h => by simp [Cx.bare] at h, fun _ _ h => by simp [Cx.bare] at h⟩
theorem V.bare {c : Cx} {w : World} {x : PV} {v : Value} (h : V E c x v) (hp : pureB x = true) (hw : ∀ k, c.I k → w.heap[k]? = c.w.heap[k]?) : V E (c.bare w) x v :=
  VL.lower (n := 0) h (by simp [belowL, below_of_pure 0 x hp]) (fun _ h => h) hw (fun b _ h => by omega) (fun _ _ h => by simp [Cx.bare] at h)

theorem wpList_keep {P : Program} {ops : Array Oper} {M : Exit → Act → World → Prop} {t : Nat} {x : Option Value} : ∀ (os : List Oper) (a : Act) (w : World), (∀ o ∈ os, o.dst ≠ some t) → a.tmps[t]? = x → wpList P ops M os a w →
    wpList P ops (fun e a' w' => M e a' w' ∧ (e = .normal → a'.tmps[t]? = x)) os a w
  | [], a, w, _, hx, h => ⟨h, fun _ => hx⟩
  | o :: os, a, w, hd, hx, h => by
    have hput : ∀ (ds : List Deferred) (v : Value), (Act.put { a with defers := ds } o.dst v).tmps[t]? = x := fun ds v => by
      have hne := hd o (by simp)
      cases hdst : o.dst with
      | none => exact hx
      | some d =>
        simp only [Act.put]
        rw [Array.getElem?_setIfInBounds_ne (fun e => hne (by rw [hdst, e]))]
        exact hx
    have ih := fun ds v w => wpList_keep (P := P) (ops := ops) (M := M) (t := t) (x := x) os (Act.put { a with defers := ds } o.dst v) w (fun o ho => hd o (by simp [ho])) (hput ds v)
    have hout : ∀ {M : Exit → Act → World → Prop}, LetsOut M → LetsOut (fun e a' w' => M e a' w' ∧ (e = .normal → a'.tmps[t]? = x)) := fun h => by
      obtain ⟨a0, w0, h0⟩ := h
      exact ⟨a0, w0, h0, by simp⟩
    unfold wpList at h ⊢
    split at h
    · rename_i hw
      rw [if_pos hw]
      rcases h with h | ⟨h1, h2⟩
      · left
        unfold Oper.wp Oper.upon at *
        split at h
        · exact ih a.defers _ _ h
        · exact ih a.defers _ _ h
        · exact ih _ _ _ h
        · refine h.mono fun e w' he => ?_
          cases e with
          | returned v => exact ih a.defers _ _ he
          | panicked ch => exact ⟨he, by simp⟩
          | outgrown => exact hout he
        · exact h.mono fun v w' he => ih a.defers _ _ he
        · exact ⟨h, by simp⟩
        · exact h.elim
      · exact .inr ⟨h1, hout h2⟩
    · rename_i hw
      rw [if_neg hw]
      exact ih a.defers _ _ h

theorem wpList_then {ops : Array Oper} {M : Exit → Act → World → Prop} {K : Fr → Store → Prop} {os2 : List Oper} {ds : List Deferred} {cx0 : Cx}
    (hc : ∀ fr' σ' (cx' : Cx) (a' : Act), K fr' σ' → Now E cx' σ' → FR E cx' N fr' a'.tmps → a'.defers = ds → Step (cx0.below z) cx' → wpList E.P ops M os2 a' cx'.w) :
    ∀ (os : List Oper) (fr : Fr) (σ : Store), (∀ o ∈ os, ∀ t, o.dst = some t → t < N) → ROps E N z ops (fun _ _ _ => False) K os fr σ →
    ∀ (cx : Cx) (a : Act), a.defers = ds → cx.top ≤ z → Now E cx σ → FR E cx N fr a.tmps → Step (cx0.below z) cx → wpList E.P ops M (os ++ os2) a cx.w
  | [], fr, σ, hd, h, cx, a, hds, ht, hn, hf, hs => hc fr σ cx a h hn hf hds hs
  | o :: os, fr, σ, hd, h, cx, a, hds, ht, hn, hf, hs => by
    obtain ⟨b, hb, h⟩ := h
    have hw := wanted_of_guard hf hb
    show wpList E.P ops M (o :: (os ++ os2)) a cx.w
    unfold wpList
    rw [hw]
    cases b with
    | true =>
      simp only [if_true] at h ⊢
      refine .inl (wpList_of_ROps.Oper.wp_mono' ?_ ?_ (h cx a ht hn hf))
      · rintro a' w' ⟨fr', σ', cx', rfl, hk, hn', hf', hd', hs'⟩
        exact wpList_then hc os fr' σ' (fun o ho => hd o (by simp [ho])) hk cx' a' (hd'.trans hds) (hs'.top ▸ ht) hn' hf' (hs.transB (hs'.ofBelow ht))
      · rintro e a' w' ⟨_, _, _, _, _, hl, _⟩; exact hl.elim
    | false =>
      simp only [Bool.false_eq_true, if_false] at h ⊢
      have hput : FR E cx N (Fr.put fr o.dst (.tup [])) (a.put o.dst undef).tmps := hf.put V_skip (hd o (by simp))
      have hde : (a.put o.dst undef).defers = a.defers := by cases o.dst <;> rfl
      exact wpList_then hc os _ σ (fun o ho => hd o (by simp [ho])) h cx (a.put o.dst undef) (hde.trans hds) ht hn hput hs

theorem wpList_mono {P : Program} {ops : Array Oper} {M M' : Exit → Act → World → Prop} (h : ∀ e a w, M e a w → M' e a w) : ∀ (os : List Oper) (a : Act) (w : World), wpList P ops M os a w → wpList P ops M' os a w
  | [], a, w, k => h _ _ _ k
  | o :: os, a, w, k => by
    unfold wpList at k ⊢
    split at k
    · rename_i hw
      rw [if_pos hw]
      rcases k with k | ⟨k1, a0, w0, k2⟩
      · exact .inl (wpList_of_ROps.Oper.wp_mono' (fun a w => wpList_mono h os a w) h k)
      · exact .inr ⟨k1, a0, w0, h _ _ _ k2⟩
    · rename_i hw
      rw [if_neg hw]
      exact wpList_mono h os _ _ k

/-- Operations by the logic, one temporary kept. -/
theorem wpList_keeping (O : E.OK) {ops : Array Oper} {M : Exit → Act → World → Prop} {K : Fr → Store → Prop} {cx : Cx} {a : Act} (t : Nat) (os : List Oper) (hd : (os.all fun o => match o.dst with | some u => decide (u < N) && !(u == t) | none => true) = true)
    (ht : cx.top ≤ z) (hn : Now E cx σ) (hf : FR E cx N fr a.tmps) (h : RF E ops (fun _ _ _ => False) K os fr σ)
    (hc : ∀ fr' σ' (cx' : Cx) (a' : Act), K fr' σ' → Now E cx' σ' → FR E cx' N fr' a'.tmps → a'.defers = a.defers → Step (cx.below z) cx' → a'.tmps[t]? = a.tmps[t]? → M .normal a' cx'.w) : wpList E.P ops M os a cx.w := by
  have hd1 : ∀ o ∈ os, ∀ t, o.dst = some t → t < N := fun o ho u hu => by
    have := List.all_eq_true.1 hd o ho
    rw [hu] at this; simp only [Bool.and_eq_true, decide_eq_true_eq] at this; exact this.1
  have hd2 : ∀ o ∈ os, o.dst ≠ some t := fun o ho hu => by
    have := List.all_eq_true.1 hd o ho
    rw [hu] at this; simp at this
  have h1 : wpList E.P ops (fun e a' w' => e = .normal ∧ ∃ fr' σ' cx', cx'.w = w' ∧ K fr' σ' ∧ Now E cx' σ' ∧ FR E cx' N fr' a'.tmps ∧ a'.defers = a.defers ∧ Step (cx.below z) cx') (os ++ []) a cx.w :=
    wpList_then (cx0 := cx) (z := z) (ds := a.defers) (fun fr' σ' cx' a' hk hn hf hd hs => wpList_nil ⟨rfl, fr', σ', cx', rfl, hk, hn, hf, hd, hs⟩) os fr σ hd1 (ROps_of_RF O _ fr σ hd1 h) cx a rfl ht hn hf ((Step.refl cx).ofBelow ht)
  rw [List.append_nil] at h1
  refine wpList_mono ?_ os a cx.w (wpList_keep os a cx.w hd2 rfl h1)
  rintro e a' w' ⟨⟨rfl, fr', σ', cx', rfl, k1, k2, k3, k4, k5⟩, k6⟩
  exact hc fr' σ' cx' a' k1 k2 k3 k4 k5 (k6 rfl)

/-- The first k operations by the logic, the others by the machine. -/
theorem wpList_split (O : E.OK) {ops : Array Oper} {M : Exit → Act → World → Prop} {K : Fr → Store → Prop} {cx : Cx} {a : Act} (k : Nat) (os : List Oper) (hd : (os.all fun o => match o.dst with | some t => decide (t < N) | none => true) = true)
    (ht : cx.top ≤ z) (hn : Now E cx σ) (hf : FR E cx N fr a.tmps) (h : RF E ops (fun _ _ _ => False) K (os.take k) fr σ)
    (hc : ∀ fr' σ' (cx' : Cx) (a' : Act), K fr' σ' → Now E cx' σ' → FR E cx' N fr' a'.tmps → a'.defers = a.defers → Step (cx.below z) cx' → wpList E.P ops M (os.drop k) a' cx'.w) : wpList E.P ops M os a cx.w := by
  have hd' : ∀ o ∈ os.take k, ∀ t, o.dst = some t → t < N := fun o ho t ht => by
    have := List.all_eq_true.1 hd o (List.mem_of_mem_take ho)
    rw [ht] at this; simpa using this
  rw [← List.take_append_drop k os]
  exact wpList_then hc (os.take k) fr σ hd' (ROps_of_RF O _ fr σ hd' h) cx a rfl ht hn hf ((Step.refl cx).ofBelow ht)
end
end Go.Proofs.Ythllcknfidnfaaa
