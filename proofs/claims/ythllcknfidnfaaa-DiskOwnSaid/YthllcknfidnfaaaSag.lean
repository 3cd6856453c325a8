/- What is handed in, as values. -/
import Derived.Test.YthllcknfidnfaaaSaf
set_option linter.unusedVariables false
set_option linter.unusedSimpArgs false
namespace Go.Proofs.Ythllcknfidnfaaa
open Go

def cx0 (w : World) : Cx := { I := fun k => k < w.heap.size, F := fun k => k < w.heap.size, w := w, mu := fun _ => none, A := fun _ => False, top := 0 }
theorem Now.cx0 {E : Env} (w : World) : Now E (cx0 w) [] :=
  ⟨Nat.zero_le _, fun _ h => h.elim, fun _ h => h, fun _ h => h, fun _ _ h => by simp [Proofs.Ythllcknfidnfaaa.cx0] at h, fun _ _ h => by simp at h, fun _ _ _ _ h => by simp [Proofs.Ythllcknfidnfaaa.cx0] at h, fun _ _ h => by simp [Proofs.Ythllcknfidnfaaa.cx0] at h⟩

/-- A value of a type: of what is handed in. -/
def Dat (E : Env) : Nat → TypeId → PV → Prop
  | 0, _, _ => False
  | n + 1, t, x => match E.td t with
    | .bool => ∃ b, x = .bool b
    | .int k => ∃ i, x = .int k i ∧ (Lit.int k i).wf = true
    | .str => ∃ s, x = .str s ∧ s.size ≤ maxLen
    | .slice e => ∃ xs, x = .lit xs ∧ xs.length ≤ maxLen ∧ ∀ y ∈ xs, Dat E n e y
    | .st => ∃ fs, x = .agg t fs ∧ fs.length = (E.lay t).length ∧ ∀ (i : Nat) u y, (E.lay t)[i]? = some u → fs[i]? = some y → Dat E n u y
    | _ => False
def simpleT (E : Env) : Nat → TypeId → Bool
  | 0, _ => false
  | n + 1, t => E.kn t && match E.td t with
    | .bool => true
    | .int _ => true
    | .str => true
    | .slice e => simpleT E n e
    | .st => (E.lay t).all (simpleT E n)
    | _ => false

section
variable {E : Env}
theorem mapM_get {α β : Type} {f : α → Option β} {l : List α} {r : List β} (h : l.mapM f = some r) : r.length = l.length ∧ ∀ (i : Nat) (a : α), l[i]? = some a → ∃ b, f a = some b ∧ r[i]? = some b := mapM_some h

theorem plain_of {t : TypeId} (O : E.OK) (hk : E.kn t = true) {d : TypeDesc} (hd : (match d with | .struct _ | .array _ _ => true | _ => false) = false) (hu : E.P.underlying t = some d) : E.agg t = false := by
  obtain ⟨d', h1, h2⟩ := O.und t hk
  rw [hu, Option.some.injEq] at h1; subst h1
  exact h2.trans hd
theorem cellsOf_eq (O : E.OK) {t : TypeId} (hk : E.kn t = true) : E.P.cellsOf t = E.size t := by
  obtain ⟨i, h1, h2, _⟩ := O.info t hk
  simp [Program.cellsOf, h1, h2]
theorem simple_kn {n : Nat} {t : TypeId} (h : simpleT E n t = true) : E.kn t = true := by
  cases n with
  | zero => simp [simpleT] at h
  | succ n => simp only [simpleT, Bool.and_eq_true] at h; exact h.1

/-- Parts, one behind the other. -/
theorem VCs_parts (O : E.OK) {c : Cx} {D : TypeId → PV → Prop} : ∀ (Ts : List TypeId) (cs : List Value), cs.length = (Ts.map E.size).sum →
    (∀ (k : Nat) T, Ts[k]? = some T → ∃ x, VC E c x ((cs.drop ((Ts.take k).map E.size).sum).take (E.size T)) ∧ fits E T x = true ∧ D T x) →
    ∃ xs, VCs E c Ts xs cs ∧ xs.length = Ts.length ∧ ∀ (i : Nat) u y, Ts[i]? = some u → xs[i]? = some y → D u y
  | [], cs, hl, _ => by
    have : cs = [] := List.length_eq_zero_iff.1 (by simpa using hl)
    subst this
    exact ⟨[], .nil, rfl, by simp⟩
  | T :: Ts, cs, hl, h => by
    obtain ⟨x, h1, h2, h3⟩ := h 0 T rfl
    simp only [List.take_zero, List.map_nil, List.sum_nil, List.drop_zero] at h1
    simp only [List.map_cons, List.sum_cons] at hl
    obtain ⟨xs, k1, k2, k3⟩ := VCs_parts O (c := c) (D := D) Ts (cs.drop (E.size T)) (by simp; omega) (fun k U hU => by
      have := h (k + 1) U (by simpa using hU)
      simpa [List.drop_drop] using this)
    refine ⟨x :: xs, ?_, by simp [k2], fun i u y hu hy => ?_⟩
    · have := VCs.cons h2 h1 k1
      rwa [List.take_append_drop] at this
    · cases i with
      | zero => simp at hu hy; subst hu; subst hy; exact h3
      | succ i => exact k3 i u y (by simpa using hu) (by simpa using hy)

theorem range_get {n i a : Nat} (h : (List.range n)[i]? = some a) : a = i ∧ i < n := by
  have hl := getElem?_lt h
  simp only [List.length_range] at hl
  rw [List.getElem?_range hl] at h
  simp only [Option.some.injEq] at h
  exact ⟨h.symm, hl⟩

theorem cell_spot {w : World} {a : Addr} {v : Value} (h : w.cell? a = some v) : a.spot = none ∧ ∃ ca e fz, w.heap[a.block]? = some (.cells ca e fz) ∧ ca[a.off]? = some v := by
  unfold World.cell? at h
  split at h
  · rename_i c e fz hb
    split at h
    · simp at h
    · rename_i hs
      exact ⟨by simpa using hs, c, e, fz, hb, h⟩
  · simp at h

theorem cells_get {w : World} {base : Nat} {a : Addr} {n : Nat} {cs : List Value} (h : w.cells? base a n = some cs) : cs.length = n ∧ ∀ j, j < n → w.cell? (a.add j) = cs[j]? := by
  unfold World.cells? at h
  split at h
  · obtain ⟨h1, h2⟩ := mapM_get h
    simp only [List.length_range] at h1
    refine ⟨h1, fun j hj => ?_⟩
    obtain ⟨b, h3, h4⟩ := h2 j j (by simp [hj])
    rw [h3, h4]
  · simp at h
theorem add_add {a : Addr} (hs : a.spot = none) (m j : Nat) : (a.add m).add j = ⟨a.block, a.off + m + j, none⟩ := by
  obtain ⟨b, o, s⟩ := a
  simp only at hs; subst hs
  unfold Addr.add
  by_cases h1 : m = 0 <;> by_cases h2 : j = 0 <;> simp [h1, h2]

/-- A row of what is handed in. -/
theorem row_VC (O : E.OK) {D : PV → Prop} {e : TypeId} (hke : E.kn e = true) (hpos : 0 < E.size e) {w : World} {a : Addr} {len cap : Nat} (hlc : len ≤ cap)
    (h : ∀ i, i < len → ∃ ci x, w.cells? 0 (a.add (i * E.size e)) (E.size e) = some ci ∧ VC E (cx0 w) x ci ∧ fits E e x = true ∧ D x) :
    ∃ xs, VC E (cx0 w) (.lit xs) [.slice (some a) len cap] ∧ xs.length = len ∧ ∀ y ∈ xs, D y := by
  cases len with
  | zero => exact ⟨[], .lit0 _ _, rfl, by simp⟩
  | succ len =>
    obtain ⟨c0, x0, h0, _⟩ := h 0 (by omega)
    obtain ⟨g1, g2⟩ := cells_get h0
    have hc0 := g2 0 hpos
    have hlt0 : 0 < c0.length := by omega
    rw [List.getElem?_eq_getElem hlt0] at hc0
    have hsp : a.spot = none := by
      have := (cell_spot hc0).1
      simpa [Addr.add] using this
    have haddr : ∀ i j, (a.add (i * E.size e)).add j = ⟨a.block, a.off + i * E.size e + j, none⟩ := fun i j => add_add hsp _ _
    obtain ⟨_, ca, el, fz, hb, _⟩ := cell_spot hc0
    have hb : w.heap[a.block]? = some (.cells ca el fz) := by
      rw [haddr 0 0] at hb; exact hb
    have hcell : ∀ i ci, i < len + 1 → w.cells? 0 (a.add (i * E.size e)) (E.size e) = some ci → ci.length = E.size e ∧ ∀ j, j < E.size e → ca[a.off + i * E.size e + j]? = ci[j]? := fun i ci hi hci => by
      obtain ⟨k1, k2⟩ := cells_get hci
      refine ⟨k1, fun j hj => ?_⟩
      rw [← k2 j hj, haddr i j]
      simp [World.cell?, hb]
    have hfit : a.off + (len + 1) * E.size e ≤ ca.size := by
      obtain ⟨ci, _, hci, _⟩ := h len (by omega)
      obtain ⟨k1, k2⟩ := hcell len ci (by omega) hci
      have := k2 (E.size e - 1) (by omega)
      rw [List.getElem?_eq_getElem (by omega)] at this
      have := (Array.getElem?_eq_some_iff.1 this).1
      rw [Nat.add_mul]; omega
    have hsum : ∀ k, k ≤ len + 1 → (((List.replicate (len + 1) e).take k).map E.size).sum = k * E.size e := fun k hk => by
      rw [List.take_replicate, List.map_replicate, List.sum_replicate_nat, Nat.min_eq_left hk]
    obtain ⟨xs, v1, v2, v3⟩ := VCs_parts O (c := cx0 w) (D := fun _ y => D y) (List.replicate (len + 1) e) ((ca.toList.drop a.off).take ((len + 1) * E.size e)) (by
      have := hsum (len + 1) (Nat.le_refl _)
      rw [List.take_of_length_le (by simp)] at this
      rw [this, List.length_take, List.length_drop, Array.length_toList]; omega) (fun k T hT => by
      have hk : k < len + 1 := by have := getElem?_lt hT; simpa using this
      have hT' : T = e := by
        rw [List.getElem?_replicate, if_pos hk, Option.some.injEq] at hT
        exact hT.symm
      subst hT'
      obtain ⟨ci, x, hci, hv, hf, hD⟩ := h k hk
      obtain ⟨k1, k2⟩ := hcell k ci hk hci
      refine ⟨x, ?_, hf, hD⟩
      have hmul : k * E.size T + E.size T ≤ (len + 1) * E.size T := by rw [← Nat.succ_mul]; exact Nat.mul_le_mul_right _ hk
      have : (((ca.toList.drop a.off).take ((len + 1) * E.size T)).drop (((List.replicate (len + 1) T).take k).map E.size).sum).take (E.size T) = ci := by
        rw [hsum k (by omega)]
        apply List.ext_getElem?
        intro j
        by_cases hj : j < E.size T
        · rw [List.getElem?_take_of_lt hj, List.getElem?_drop, List.getElem?_take_of_lt (by omega), List.getElem?_drop, Array.getElem?_toList, ← k2 j hj]
          congr 1; omega
        · rw [List.getElem?_eq_none (by simp; omega), List.getElem?_eq_none (by omega)]
      rw [this]; exact hv)
    simp only [List.length_replicate] at v2
    refine ⟨xs, ?_, v2, fun y hy => ?_⟩
    · have hlit := VC.lit (E := E) (c := cx0 w) xs e a.block a.off cap ((ca.toList.drop a.off).take ((len + 1) * E.size e)) ca el fz (Array.getElem?_eq_some_iff.1 hb).1 hb (by rw [v2]; exact v1) (fun j v hj => by
        rw [List.getElem?_take] at hj
        split at hj
        · rw [List.getElem?_drop, Array.getElem?_toList] at hj; exact hj
        · simp at hj) (by omega)
      rw [v2] at hlit
      have : a = ⟨a.block, a.off, none⟩ := by obtain ⟨b, o, s⟩ := a; simp only at hsp; subst hsp; rfl
      rw [this]; exact hlit
    · obtain ⟨i, hi⟩ := List.mem_iff_getElem?.1 hy
      have hlt := getElem?_lt hi
      exact v3 i e y (by rw [List.getElem?_replicate]; simp; omega) hi

theorem trod_VC (O : E.OK) {H : Type} {enc : TypeId × Value → H} (w : World) {sp : Nat → Bool} {held : Bool} : ∀ (fuel n : Nat) (t : TypeId) (cs : List Value) (d : DataW H) (ps : List MemPlace), simpleT E n t = true → DataW.trod enc E.P w 0 sp held fuel t cs = some (d, ps) →
    ∃ x, VC E (cx0 w) x cs ∧ fits E t x = true ∧ Dat E n t x
  | 0, n, t, cs, d, ps, hs, h => by simp [DataW.trod] at h
  | fuel + 1, 0, t, cs, d, ps, hs, h => by simp [simpleT] at hs
  | fuel + 1, n + 1, t, cs, d, ps, hs, h => by
    have ih := fun t cs d ps h1 h2 => trod_VC O (enc := enc) (sp := sp) (held := held) w fuel n t cs d ps h1 h2
    simp only [simpleT, Bool.and_eq_true] at hs
    obtain ⟨hk, hs⟩ := hs
    have htd := O.td t hk
    simp only [Dat]
    cases hd : E.td t <;> rw [hd] at hs htd <;> simp only [Bool.false_eq_true] at hs
    · have hu : E.P.underlying t = some .bool := htd
      have ha := plain_of O hk rfl hu
      rcases cs with _ | ⟨v, _ | ⟨u, r⟩⟩
      · simp [DataW.trod, hu] at h
      · cases v <;> simp [DataW.trod, hu] at h
        exact ⟨_, .bool _, by simp [fits, ha], _, rfl⟩
      · simp [DataW.trod, hu] at h
    · rename_i k
      have hu : E.P.underlying t = some (.int k) := htd
      have ha := plain_of O hk rfl hu
      rcases cs with _ | ⟨v, _ | ⟨u, r⟩⟩
      · simp [DataW.trod, hu] at h
      · cases v <;> simp [DataW.trod, hu] at h
        obtain ⟨⟨rfl, hw⟩, _⟩ := h
        exact ⟨_, .int _ _, by simp [fits, ha], _, rfl, hw⟩
      · simp [DataW.trod, hu] at h
    · have hu : E.P.underlying t = some .string := htd
      have ha := plain_of O hk rfl hu
      rcases cs with _ | ⟨v, _ | ⟨u, r⟩⟩
      · simp [DataW.trod, hu] at h
      · cases v <;> simp [DataW.trod, hu] at h
        exact ⟨_, .str _, by simp [fits, ha], _, rfl, h.1⟩
      · simp [DataW.trod, hu] at h
    · rename_i e
      obtain ⟨hu, hke, hpos⟩ := htd
      have ha := plain_of O hk rfl hu
      have hce := cellsOf_eq O hke
      rcases cs with _ | ⟨v, _ | ⟨u, r⟩⟩
      · simp [DataW.trod, hu] at h
      · cases v with
        | slice a len cap =>
          cases a with
          | none =>
            refine ⟨.lit [], ?_, by simp [fits, ha], [], rfl, by simp, by simp⟩
            cases len <;> cases cap <;> simp [DataW.trod, hu] at h
            exact .lit0 _ _
          | some a =>
            simp only [DataW.trod, hu] at h
            split at h
            · rename_i hc
              obtain ⟨_, hlc, hcm⟩ := hc
              simp only [Option.bind_eq_some_iff] at h
              obtain ⟨elems, hel, _⟩ := h
              obtain ⟨hlen, hget⟩ := mapM_get hel
              simp only [List.length_range] at hlen
              rw [hce] at hget
              obtain ⟨xs, v1, v2, v3⟩ := row_VC O (D := Dat E n e) hke hpos hlc (fun i hi => by
                obtain ⟨b, k1, _⟩ := hget i i (by simp [hi])
                simp only [Option.bind_eq_some_iff] at k1
                obtain ⟨ci, k2, k3⟩ := k1
                obtain ⟨x, m1, m2, m3⟩ := ih e ci b.1 b.2 hs k3
                exact ⟨ci, x, k2, m1, m2, m3⟩)
              exact ⟨.lit xs, v1, by simp [fits, ha], xs, rfl, by omega, v3⟩
            · simp at h
        | _ => simp [DataW.trod, hu] at h
      · simp [DataW.trod, hu] at h
    · obtain ⟨fields, hu, hsz, hfs⟩ := htd
      have ha : E.agg t = true := by
        obtain ⟨d', h1, h2⟩ := O.und t hk
        rw [hu, Option.some.injEq] at h1; subst h1
        exact h2
      have hce := cellsOf_eq O hk
      simp only [DataW.trod, hu] at h
      split at h
      · rename_i hlen
        simp only [Option.map_eq_some_iff] at h
        obtain ⟨ys, hys, _⟩ := h
        obtain ⟨g1, g2⟩ := mapM_get hys
        obtain ⟨xs, v1, v2, v3⟩ := VCs_parts O (c := cx0 w) (D := Dat E n) (E.lay t) cs (by rw [hlen, hce, O.aggr t ha]) (fun k T hT => by
          have hkl : k < fields.size := by rw [hsz]; exact getElem?_lt hT
          obtain ⟨k1, k2, k3, k4⟩ := hfs k fields[k] (by simp [hkl])
          rw [hT, Option.some.injEq] at k1; subst k1
          obtain ⟨b, m1, _⟩ := g2 k fields[k] (by simp [hkl])
          rw [k2, cellsOf_eq O k3] at m1
          have hsT := List.all_eq_true.1 hs _ (List.mem_of_getElem? hT)
          obtain ⟨x, n1, n2, n3⟩ := ih _ _ b.1 b.2 hsT m1
          exact ⟨x, n1, n2, n3⟩)
        exact ⟨.agg t xs, .agg t xs cs v1, by simp [fits, ha], xs, rfl, v2, v3⟩
      · simp at h
end
end Go.Proofs.Ythllcknfidnfaaa
