/- From the machine's word on a library's function to the logic's. -/
import Derived.Test.YthllcknfidnfaaaSz
import Derived.Below
set_option linter.unusedVariables false
set_option linter.unusedSimpArgs false
namespace Go.Proofs.Ythllcknfidnfaaa
open Go

/-- Behind a call that leaves all that lay there. -/
def Cx.grown (c : Cx) (w : World) : Cx := { c with w := w, I := fun k => c.I k ∨ (c.w.heap.size ≤ k ∧ k < w.heap.size), F := fun k => c.F k ∨ (c.w.heap.size ≤ k ∧ k < w.heap.size) }

section
variable {E : Env}

theorem Now.grown {cx : Cx} {σ : Store} (hn : Now E cx σ) {w : World} (hb : RowKit.Below cx.w.heap.size cx.w w) : Now E (cx.grown w) σ ∧ Step cx (cx.grown w) := by
  have hext : Ext cx (cx.grown w) := ⟨fun k h => .inl h, fun k h => hb.block k (hn.immI k h), fun _ h => h, fun _ _ m h => ⟨m, h, Nat.le_refl _, fun _ => rfl⟩⟩
  refine ⟨⟨hn.top, hn.A, fun k h => h.imp (hn.IF k) id, fun k h => ?_, fun b m hm => ?_, hn.live, hn.inj, hn.base⟩, ⟨hext, fun k h => .inl h, fun k h => hb.block k (hn.imm k h), fun k h => ?_, fun b m h => .inr ⟨b, m, h, rfl⟩, rfl, fun _ h => .inl h, hb.size, hb.os, hb.tape, hb.output⟩⟩
  · rcases h with h | h
    · exact Nat.lt_of_lt_of_le (hn.imm k h) hb.size
    · exact h.2
  · obtain ⟨blk, h1, h2, h3, h4⟩ := hn.dom b m hm
    refine ⟨blk, h1, Nat.lt_of_lt_of_le h2 hb.size, ?_, h4.ext hext (hb.block _ h2)⟩
    rintro (h | h)
    · exact h3 h
    · omega
  · rcases h with h | h
    · exact .inl h
    · exact .inr (.inl h.1)

theorem C_below {f : FuncId} {args : List PV} {σ : Store} {R : Re → Store → Prop}
    (h : ∀ (cx : Cx) (vs : Array Value), Now E cx σ → VL E cx args vs.toList → Calls E.P f vs cx.w fun e w' => RowKit.Below cx.w.heap.size cx.w w' ∧ ∃ re, R re σ ∧ ReOK E (cx.grown w') re e) : C E f args σ R := fun cx vs hn hv =>
  (h cx vs hn hv).mono fun e w' ⟨hb, re, h1, h2⟩ => ⟨re, σ, cx.grown w', rfl, h1, h2, (hn.grown hb).1, (hn.grown hb).2⟩

theorem V_row {cx : Cx} {w : World} {T : TypeId} {size n : Nat} {v : Value} {cells : List Value} {xs : List PV} (hrow : w.ownsRow cx.w.heap.size T size v n cells) (hlen : xs.length = n) (hx : VCs E (cx.grown w).pure (List.replicate xs.length T) xs cells) :
    V E (cx.grown w) (.lit xs) v := by
  obtain ⟨h1, h2⟩ := hrow
  rcases h2 with ⟨rfl, h3⟩ | ⟨g, cap, cur, rfl, hg, hb, hcap, _, hsz, htake⟩
  · have : xs = [] := List.length_eq_zero_iff.1 (hlen.trans h3)
    subst this
    exact V_one (.lit0 _ _) (by simp)
  · subst hlen
    refine V_one (.lit xs T g 0 cap cells cur T (0, 0) (.inr ⟨hg, ?_⟩) hb hx (fun j u hj => ?_) hcap) (by simp)
    · exact (Array.getElem?_eq_some_iff.1 hb).1
    · rw [← htake, List.getElem?_take] at hj
      split at hj
      · simpa using hj
      · simp at hj

end
end Go.Proofs.Ythllcknfidnfaaa
