/- A row that is handed on, and that nobody writes any more. -/
import Derived.Test.YthllcknfidnfaaaSae
set_option linter.unusedVariables false
set_option linter.unusedSimpArgs false
namespace Go.Proofs.Ythllcknfidnfaaa
open Go
section
variable {E : Env} {σ : Store}
def Cx.still (c : Cx) (b : Nat) : Cx := { c with I := fun k => c.I k ∨ ∃ m, c.mu b = some m ∧ m.blk = k, F := fun k => c.F k ∨ ∃ m, c.mu b = some m ∧ m.blk = k, mu := fun x => if x = b then none else c.mu x }
theorem Cx.still_mu {c : Cx} {b x : Nat} {m : MB} (h : (c.still b).mu x = some m) : x ≠ b ∧ c.mu x = some m := by
  simp only [Cx.still] at h
  split at h
  · simp at h
  · exact ⟨by assumption, h⟩
theorem Cx.still_ext (c : Cx) (b : Nat) : Ext c (c.still b) := ⟨fun _ h => .inl h, fun _ _ => rfl, fun _ h => h, fun x _ m h => ⟨m, (Cx.still_mu h).2, Nat.le_refl _, fun _ => rfl⟩⟩
theorem Now.still {c : Cx} (hn : Now E c σ) (b : Nat) : Now E (c.still b) (σ.set b none) ∧ Step c (c.still b) := by
  have he := Cx.still_ext c b
  refine ⟨⟨by have := hn.top; simpa [Cx.still] using this, fun x hx => by have := hn.A x hx; simpa using this, fun k h => h.imp (hn.IF k) id, fun k h => ?_, fun x m hm => ?_, fun x blk hx => ?_, fun x x' m m' h h' e => hn.inj x x' m m' (Cx.still_mu h).2 (Cx.still_mu h').2 e, fun x m h => hn.base x m (Cx.still_mu h).2⟩,
    ⟨he, fun _ h => .inl h, fun _ _ => rfl, fun k h => ?_, fun x m h => .inr ⟨x, m, (Cx.still_mu h).2, rfl⟩, rfl, fun _ h => .inl h, Nat.le_refl _, rfl, rfl, rfl⟩⟩
  · rcases h with h | ⟨m, h1, h2⟩
    · exact hn.imm k h
    · obtain ⟨_, _, h3, _⟩ := hn.dom b m h1
      exact h2 ▸ h3
  · obtain ⟨hne, hm'⟩ := Cx.still_mu hm
    obtain ⟨blk, h1, h2, h3, h4⟩ := hn.dom x m hm'
    refine ⟨blk, by rw [List.getElem?_set_ne (Ne.symm hne)]; exact h1, h2, ?_, h4.ext he rfl⟩
    rintro (h | ⟨m2, k1, k2⟩)
    · exact h3 h
    · exact hne (hn.inj x b m m2 hm' k1 k2.symm)
  · have hne : x ≠ b := fun e => by
      subst e
      rw [List.getElem?_set] at hx
      simp only [if_true] at hx
      split at hx <;> simp at hx
    rw [List.getElem?_set_ne (Ne.symm hne)] at hx
    obtain ⟨h1, m, h2⟩ := hn.live x blk hx
    exact ⟨h1, m, by simp [Cx.still, hne, h2]⟩
  · rcases h with h | ⟨m, h1, h2⟩
    · exact .inl h
    · exact .inr (.inr ⟨b, m, h1, h2⟩)

theorem V.still {c : Cx} (hn : Now E c σ) {b g ty : Nat} {xs : List PV} (hb : Store.at σ b = some (.cells ty g xs)) (hp : pureL xs = true) {v : Value} (h : V E c (.ref b g 0 xs.length) v) : V E (c.still b) (.lit xs) v := by
  obtain ⟨m, ca, el, fz, cs, j1, j2, j3, j4, j5, j6, j7, j8, j9⟩ := hn.blk hb
  obtain ⟨a, cap, rfl, hcap, hh⟩ := h.ref_inv.2.2 m j1 j2
  cases xs with
  | nil => exact V_one (.lit0 _ _) (by simp)
  | cons x xs =>
    obtain ⟨rfl, hfit⟩ := hh.resolve_left (by simp at hcap; omega)
    refine V_one (.lit (x :: xs) ty m.blk (m.base + 0 * E.size m.ty) cap cs ca el fz (.inr ⟨m, j1, rfl⟩) j4 ?_ (by simpa using j7) hcap) (by simp)
    exact j6.lower (n := 0) (belowL_of_pure 0 _ hp) (fun k h => .inl h) (fun _ _ => rfl) (fun b _ h => by omega) (fun b m h => by simp [Cx.pure] at h)

theorem VL.split {c : Cx} : ∀ {xs ys : List PV} {vs : List Value}, VL E c (xs ++ ys) vs → ∃ us ws, vs = us ++ ws ∧ VL E c xs us ∧ VL E c ys ws
  | [], ys, vs, h => ⟨[], vs, rfl, .nil, h⟩
  | x :: xs, ys, vs, h => by
    have h : VL E c (x :: (xs ++ ys)) vs := h
    cases h with
    | undef hs => obtain ⟨us, ws, rfl, h1, h2⟩ := VL.split hs; exact ⟨_, ws, rfl, .undef h1, h2⟩
    | one h1 hn hx hs => obtain ⟨us, ws, rfl, k1, k2⟩ := VL.split hs; exact ⟨_, ws, rfl, .one h1 hn hx k1, k2⟩
    | agg hx hs => obtain ⟨us, ws, rfl, k1, k2⟩ := VL.split hs; exact ⟨_, ws, rfl, .agg hx k1, k2⟩
    | tup hx hs => obtain ⟨us, ws, rfl, k1, k2⟩ := VL.split hs; exact ⟨_, ws, rfl, .tup hx k1, k2⟩

/-- The last argument is a row that nobody writes any more: from here on it is a value. -/
theorem C_still {f : FuncId} {pre : List PV} {R : Re → Store → Prop} {b g ty n : Nat} {xs : List PV} (hb : Store.at σ b = some (.cells ty g xs)) (hp : pureL xs = true) (hlen : n = xs.length) (h : C E f (pre ++ [.lit xs]) (σ.set b none) R) :
    C E f (pre ++ [.ref b g 0 n]) σ R := fun cx vs hn hv => by
  subst hlen
  obtain ⟨us, ws, e, h1, h2⟩ := VL.split hv
  obtain ⟨v, rfl⟩ : ∃ v, ws = [v] := by
    have := h2.len
    match ws, this with
    | [v], _ => exact ⟨v, rfl⟩
  obtain ⟨n1, s1⟩ := hn.still b
  have hv' : VL E (cx.still b) (pre ++ [.lit xs]) vs.toList := by
    rw [e]
    exact VL.app (VL.ext h1 s1.ext) (V.still hn hb hp h2)
  refine (h (cx.still b) vs n1 hv').mono ?_
  rintro e w' ⟨re, σ', cx', rfl, k1, k2, k3, k4⟩
  exact ⟨re, σ', cx', rfl, k1, k2, k3, s1.trans k4⟩
end
end Go.Proofs.Ythllcknfidnfaaa
