/- append, make, and values of structs. -/
import Derived.Test.YthllcknfidnfaaaSj
set_option linter.unusedVariables false
set_option linter.unusedSimpArgs false
namespace Go.Proofs.Ythllcknfidnfaaa
open Go

section
variable {E : Env} {cx : Cx} {σ : Store} {nid : Nat}

theorem flat_len {α : Type} (cs : List α) : ∀ n, (List.replicate n cs).flatten.length = n * cs.length
  | 0 => by simp
  | n + 1 => by simp [List.replicate_succ, flat_len cs n, Nat.add_mul, Nat.add_comm]

/-- The two ends of an append, at the machine: there is room, or there is none. -/
theorem run_append (O : E.OK) (hn : Now E cx σ) {S X e ty : TypeId} {zeros : Bool} (hS : E.td S = .slice e) (hkS : E.kn S = true) (hkX : E.kn X = true) (hX : if zeros then E.td X = .int .i64 else (E.td X = .slice e ∨ E.td X = .str))
    {xv : PV} {val : Value} {ys : List PV} (hx : V E cx xv val) (hys : sApp E e xv σ zeros = some ys) (hf : ∀ y ∈ ys, fits E e y = true) (base : Option Addr) (len cap : Nat)
    (hbound : (2 * (len + ys.length) + 1000) * E.bytes e ≤ 281474976710656) (hneed : len + ys.length < 4611686018427387904) :
    ∃ cs, VR E cx e ys cs ∧
      (len + ys.length ≤ cap → (Builtin.append_ #[S, X] ty #[.slice base len cap, val]).run E.P cx.w =
        (match base with | some a => ((storeCells (a.add (len * E.size e)) cs).run E.P cx.w).andThen fun _ w => .ok (.slice base (len + ys.length) cap) w | none => .ok (.slice base (len + ys.length) cap) cx.w)) ∧
      (cap < len + ys.length → ∀ old : List Value, (∀ w, (∀ k, k < cx.w.heap.size → w.heap[k]? = cx.w.heap[k]?) → (Builtin.firstCells (E.size e) len (.slice base len cap)).run E.P w = .ok old.toArray w) →
        ∃ newCap rest, len + ys.length ≤ newCap ∧ rest.length = (newCap - (len + ys.length)) * E.size e ∧ (Builtin.append_ #[S, X] ty #[.slice base len cap, val]).run E.P cx.w =
          .ok (.slice (some ⟨cx.w.heap.size, 0, none⟩) (len + ys.length) newCap) (cx.w.drew.alloc (.cells (old ++ cs ++ rest).toArray e))) := by
  have htd := O.td S hkS
  rw [hS] at htd
  obtain ⟨hu, hke, hpos⟩ := htd
  obtain ⟨i, z, hi1, hi2, hi3, hi4⟩ := O.zero e hke
  obtain ⟨hzv, hzf⟩ := hi4 cx
  have hzl := hzv.len O.toFine _ hzf
  obtain ⟨i', hj1, hj2, hj3⟩ := O.info e hke
  rw [hi1] at hj1; simp only [Option.some.injEq] at hj1; subst hj1
  -- how many, and what
  have key : ∃ cs, VR E cx e ys cs ∧
      ((zeros = false ∧ (E.P.underlying X = some (.slice e) ∨ E.P.underlying X = some .string) ∧
        (Builtin.lenOf val).run E.P cx.w = .ok ys.length cx.w ∧ ∀ w, (∀ k, k < cx.w.heap.size → w.heap[k]? = cx.w.heap[k]?) → (Builtin.firstCells (E.size e) ys.length val).run E.P w = .ok cs.toArray w) ∨
      (zeros = true ∧ E.P.underlying X = some (.int .i64) ∧ ys.length < 1073741824 ∧ val = .int .i64 ys.length ∧ cs.toArray = Builtin.zeroCells z.cells ys.length)) := by
    cases zeros with
    | false =>
      simp only [sApp, Bool.false_eq_true, if_false] at hys hX
      obtain ⟨cs, h1, h2⟩ := list_ok O hn hx hys hf
      have hX' := O.td X hkX
      rcases hX with hX | hX <;> rw [hX] at hX'
      · exact ⟨cs, h1, .inl ⟨rfl, .inl hX'.1, (h2 cx.w fun _ _ => rfl).1, fun w hw => (h2 w hw).2⟩⟩
      · exact ⟨cs, h1, .inl ⟨rfl, .inr hX', (h2 cx.w fun _ _ => rfl).1, fun w hw => (h2 w hw).2⟩⟩
    | true =>
      simp only [sApp, if_true] at hys hX
      split at hys
      · rename_i n
        split at hys
        · rename_i hc
          simp only [Option.some.injEq] at hys; subst hys
          have hX' := O.td X hkX
          rw [hX] at hX'
          have := V.int_inv hx; subst this
          refine ⟨_, VR_rep E cx e _ _ hzv hzf n.toNat, .inr ⟨rfl, hX', by simp; omega, by simp; omega, ?_⟩⟩
          rw [zeroCells_eq]; simp
        · simp at hys
      · simp at hys
  obtain ⟨cs, hcs, hkey⟩ := key
  have hcl := VR.length O.toFine hcs
  have hb48 : ∀ n, n ≤ 2 * (len + ys.length) + 1000 → ¬ (n * i.bytes > 2 ^ 48) := fun n hn => by
    rw [hj3]
    have := Nat.mul_le_mul_right (E.bytes e) hn
    have e48 : (2 : Nat) ^ 48 = 281474976710656 := by decide
    omega
  have hmaxI : IntKind.i64.max = 9223372036854775807 := by decide
  have hforced : ∀ a b c, (Question.appendCap a b c).forced = false := fun _ _ _ => rfl
  refine ⟨cs, hcs, ?_, ?_⟩
  · intro hroom
    rcases hkey with ⟨rfl, hdX, k1, k2⟩ | ⟨rfl, hdX, k0, rfl, k3⟩
    · have k3 := k2 cx.w fun _ _ => rfl
      rcases hdX with hdX | hdX <;> cases base <;>
        simp [Builtin.append_, run_underlying hu, run_size O hke, run_underlying hdX, k1, k3, hroom]
    · have hw : IntKind.i64.wrap (ys.length : Int) = ys.length := by
        simp only [IntKind.wrap, IntKind.bits, IntKind.signed]; simp; omega
      have hb : ¬ ((ys.length : Int) * (i.bytes : Int) > 2 ^ 48) := by
        have := hb48 ys.length (by omega)
        have e : ((ys.length : Int) * (i.bytes : Int)) = ((ys.length * i.bytes : Nat) : Int) := by push_cast; rfl
        rw [e]; omega
      have hb' : ¬ (281474976710656 < (ys.length : Int) * (i.bytes : Int)) := by simpa using hb
      have hneg : ¬ ((ys.length : Int) < 0) := by omega
      by_cases h0 : ys.length * E.size e = 0
      · have hcs0 : cs = [] := List.eq_nil_of_length_eq_zero (by omega)
        cases base <;> simp [Builtin.append_, run_underlying hu, run_size O hke, run_underlying hdX, asInt, asIntOf, hw, typeInfo, hi1, hb', hneg, hroom, h0, hcs0, storeCells]
      · cases base <;> simp [Builtin.append_, run_underlying hu, run_size O hke, run_underlying hdX, asInt, asIntOf, hw, typeInfo, hi1, hb', hneg, hroom, h0, zeroValue, hi2, ← k3]
  · intro hno old hold
    have hn1 : ¬ (len + ys.length ≤ cap) := by omega
    have hcapb := hb48 _ (nextcap_le (len + ys.length) cap hno)
    let newCap := (Question.appendCap (len + ys.length) cap e).cut (cx.w.tape cx.w.drawn (Question.appendCap (len + ys.length) cap e))
    have hnewCap : len + ys.length ≤ newCap := by simp only [newCap, Question.cut]; omega
    refine ⟨newCap, (Builtin.zeroCells z.cells (newCap - (len + ys.length))).toList, hnewCap, ?_, ?_⟩
    · rw [zeroCells_eq]; simp [flat_len, ← hzl]
    · have hold' := hold cx.w.drew fun _ _ => rfl
      have hs1 : cx.w.drew.heap.size = cx.w.heap.size := rfl
      have hq : (choose (Question.appendCap (len + ys.length) cap e)).run E.P cx.w = .ok newCap cx.w.drew := by rw [run_choose, hforced]; rfl
      have hov : ∀ p : Prop, ¬ ((9223372036854775807 : Int) < (len : Int) + (ys.length : Int) ∧ p) := fun p h => by omega
      have hov' : ¬ ((9223372036854775807 : Int) < (len : Int) + (ys.length : Int)) := by omega
      have hnc : (Question.appendCap (len + ys.length) cap e).cut (cx.w.tape cx.w.drawn (Question.appendCap (len + ys.length) cap e)) = newCap := rfl
      have harr : ∀ (a b : List Value) (c : Array Value), cx.w.drew.alloc (Obj.cells (a.toArray ++ (b.toArray ++ c)) e) = cx.w.drew.alloc (Obj.cells (a ++ (b ++ c.toList)).toArray e) := fun a b c =>
        congrArg (fun x => cx.w.drew.alloc (Obj.cells x e)) (by apply Array.ext'; simp)
      have harr0 : ∀ (a : List Value) (c : Array Value), cx.w.drew.alloc (Obj.cells (a.toArray ++ c) e) = cx.w.drew.alloc (Obj.cells (a ++ c.toList).toArray e) := fun a c =>
        congrArg (fun x => cx.w.drew.alloc (Obj.cells x e)) (by apply Array.ext'; simp)
      rcases hkey with ⟨rfl, hdX, k1, k2⟩ | ⟨rfl, hdX, k0, rfl, k3⟩
      · have k3 := k2 cx.w.drew fun _ _ => rfl
        rcases hdX with hdX | hdX <;>
          simp [Builtin.append_, run_underlying hu, run_size O hke, run_underlying hdX, k1, hn1, typeInfo, hi1, hcapb, hold', k3, zeroValue, hi2, newRow, hov, hforced, hnc, harr]
      · have hw : IntKind.i64.wrap (ys.length : Int) = ys.length := by
          simp only [IntKind.wrap, IntKind.bits, IntKind.signed]; simp; omega
        have hb : ¬ ((ys.length : Int) * (i.bytes : Int) > 2 ^ 48) := by
          have := hb48 ys.length (by omega)
          have e : ((ys.length : Int) * (i.bytes : Int)) = ((ys.length * i.bytes : Nat) : Int) := by push_cast; rfl
          rw [e]; omega
        have hb' : ¬ (281474976710656 < (ys.length : Int) * (i.bytes : Int)) := by simpa using hb
        have hneg : ¬ ((ys.length : Int) < 0) := by omega
        by_cases h0 : ys.length * E.size e = 0
        · have hcs0 : cs = [] := List.eq_nil_of_length_eq_zero (by omega)
          simp [Builtin.append_, run_underlying hu, run_size O hke, run_underlying hdX, asInt, asIntOf, hw, typeInfo, hi1, hb', hneg, hn1, hcapb, hold', zeroValue, hi2, newRow, hov', hforced, hnc, h0, hcs0, harr0]
        · simp [Builtin.append_, run_underlying hu, run_size O hke, run_underlying hdX, asInt, asIntOf, hw, typeInfo, hi1, hb', hneg, hn1, hcapb, hold', zeroValue, hi2, newRow, hov', hforced, hnc, h0, ← k3, harr]

end
end Go.Proofs.Ythllcknfidnfaaa
