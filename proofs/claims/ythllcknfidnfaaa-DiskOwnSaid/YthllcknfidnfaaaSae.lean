/- What falls away at a loop's head: blocks that were laid behind the function's entry, and that nobody holds any more. -/
import Derived.Test.YthllcknfidnfaaaSad
set_option linter.unusedVariables false
set_option linter.unusedSimpArgs false
namespace Go.Proofs.Ythllcknfidnfaaa
open Go

def belowBlk (n : Nat) : Blk → Bool
  | .cells _ _ xs => belowL n xs
  | .mp _ es => es.all fun q => belowB n q.2
def belowStore (n : Nat) (σ : Store) : Bool := σ.all fun x => match x with | some b => belowBlk n b | none => true
def belowFr (n : Nat) (fr : Fr) : Bool := fr.all fun p => belowB n p.2

section
variable {E : Env} {N z : Nat} {Q : Post} {fr : Fr} {σ : Store}
def Cx.upto (c : Cx) (n : Nat) : Cx := { c with mu := fun b => if b < n then c.mu b else none, A := fun b => b < n ∧ c.A b }
theorem Cx.upto_mu {c : Cx} {n b : Nat} {m : MB} (h : (c.upto n).mu b = some m) : b < n ∧ c.mu b = some m := by
  simp only [Cx.upto] at h
  split at h
  · exact ⟨by assumption, h⟩
  · simp at h
theorem ML.lower {c c' : Cx} {n : Nat} {es : List (Lit × PV)} {ds : List (Lit × DataW Value)} (h : ML E c es ds) (hp : (es.all fun q => belowB n q.2) = true) (hI : ∀ k, c.I k → c'.I k) (hw : ∀ k, c.I k → c'.w.heap[k]? = c.w.heap[k]?)
    (hA : ∀ b, c.A b → b < n → c'.A b) (hmu : ∀ b m, c'.mu b = some m → c.mu b = some m) : ML E c' es ds := by
  induction h with
  | nil => exact .nil
  | cons h hs ih =>
    simp only [List.all_cons, Bool.and_eq_true] at hp
    exact .cons (VL.lower h (by simp [belowL, hp.1]) hI hw hA hmu) (ih hp.2)

theorem Now.upto {c : Cx} (hn : Now E c σ) (n : Nat) (htop : c.top ≤ n) (hall : belowStore n (σ.take n) = true) : Now E (c.upto n) (σ.take n) := by
  have hI : ∀ k, c.I k → (c.upto n).I k := fun _ h => h
  have hA : ∀ b, c.A b → b < n → (c.upto n).A b := fun b h h' => ⟨h', h⟩
  have hmu : ∀ b m, (c.upto n).mu b = some m → c.mu b = some m := fun b m h => (Cx.upto_mu h).2
  refine ⟨?_, fun b hb => ?_, hn.IF, hn.imm, fun b m hm => ?_, fun b blk hb => ?_, fun b b' m m' h h' e => hn.inj b b' m m' (hmu b m h) (hmu b' m' h') e, fun b m h => hn.base b m (hmu b m h)⟩
  · have := hn.top; simp only [List.length_take]; exact Nat.le_min.2 ⟨htop, this⟩
  · have := hn.A b hb.2; simp only [List.length_take]; exact Nat.lt_min.2 ⟨hb.1, this⟩
  · obtain ⟨hlt, hm'⟩ := Cx.upto_mu hm
    obtain ⟨blk, h1, h2, h3, h4⟩ := hn.dom b m hm'
    have h1' : (σ.take n)[b]? = some (some blk) := by rw [List.getElem?_take_of_lt hlt]; exact h1
    refine ⟨blk, h1', h2, h3, ?_⟩
    have hb := List.all_eq_true.1 hall _ (List.mem_of_getElem? h1')
    simp only at hb
    cases blk with
    | cells ty g xs =>
      obtain ⟨k1, k2, ca, e, fz, cs, k3, k4, k5, k6, k7, k8⟩ := h4
      exact ⟨k1, k2, ca, e, fz, cs, k3, k4, k5.lower hb hI (fun _ _ => rfl) hA hmu, k6, k7, k8⟩
    | mp K es =>
      obtain ⟨k1, k2, ds, k3, k4⟩ := h4
      exact ⟨k1, k2, ds, k3, k4.lower hb hI (fun _ _ => rfl) hA hmu⟩
  · have hlt : b < n := by
      have := getElem?_lt hb
      simp at this; omega
    rw [List.getElem?_take_of_lt hlt] at hb
    obtain ⟨h1, m, h2⟩ := hn.live b blk hb
    exact ⟨⟨hlt, h1⟩, m, by simp [Cx.upto, hlt, h2]⟩

theorem TL_fall {c : Code} {fr' : Fr} {σ' : Store} (n : Nat) (ts : List Nat) (hz : z ≤ n) (hfr : Fr.keep ts fr = fr') (hb : belowFr n fr' = true) (hσ : σ.take n = σ') (hall : belowStore n σ' = true) (h : TL E N z c Q fr' σ') : TL E N z c Q fr σ := fun cx a ht hn hf => by
  subst hfr hσ
  have hn' := hn.upto n (Nat.le_trans ht hz) hall
  have hf0 := hf.keep ts
  have hf' : FR E (cx.upto n) N (Fr.keep ts fr) a.tmps := ⟨hf0.1, fun t x hx => by
    obtain ⟨h1, h2⟩ := hf0.2 t x hx
    refine ⟨h1, VL.lower h2 (n := n) ?_ (fun _ h => h) (fun _ _ => rfl) (fun b h h' => ⟨h', h⟩) (fun b m h => (Cx.upto_mu h).2)⟩
    have := List.all_eq_true.1 hb (t, x) (Fr.get_mem hx)
    simpa [belowL] using this⟩
  have hs : Step (cx.below z) (cx.upto n) := ⟨⟨fun _ h => h, fun _ _ => rfl, fun b hb => ⟨Nat.lt_of_lt_of_le hb.2 hz, hb.1⟩, fun b _ m h => ⟨m, (Cx.upto_mu h).2, Nat.le_refl _, fun _ => rfl⟩⟩, fun _ h => h, fun _ _ => rfl, fun _ h => .inl h,
    fun b m h => .inr ⟨b, m, (Cx.upto_mu h).2, rfl⟩, rfl, fun b hb => by
      rcases Nat.lt_or_ge b z with h | h
      · exact .inl ⟨hb.2, h⟩
      · exact .inr (Nat.le_trans ht h), Nat.le_refl _, rfl, rfl, rfl⟩
  exact (h (cx.upto n) a ht hn' hf').mono fun e a w => Lift.step hs
where
  Fr.get_mem : ∀ {fr : Fr} {t : Nat} {x : PV}, Fr.get fr t = some x → (t, x) ∈ fr
  | [], t, x, h => by simp [Fr.get] at h
  | (k, y) :: r, t, x, h => by
    simp only [Fr.get] at h
    split at h
    · rename_i e; subst e
      simp only [Option.some.injEq] at h; subst h
      simp
    · exact List.mem_cons_of_mem _ (Fr.get_mem h)
end
end Go.Proofs.Ythllcknfidnfaaa
