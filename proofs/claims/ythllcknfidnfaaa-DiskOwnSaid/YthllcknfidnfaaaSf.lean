/- How the store and the machine's memory turn together: a new block, a block that is written or moves. -/
import Derived.Test.YthllcknfidnfaaaSe
set_option linter.unusedVariables false
set_option linter.unusedSimpArgs false
namespace Go.Proofs.Ythllcknfidnfaaa
open Go

def Store.at (σ : Store) (b : Nat) : Option Blk := match σ[b]? with | some (some x) => some x | _ => none
def Store.new (σ : Store) (nid : Nat) (x : Blk) : Store := if nid < σ.length then σ.set nid (some x) else σ ++ List.replicate (nid - σ.length) none ++ [some x]

theorem Store.new_self (σ : Store) (b : Nat) (x : Blk) : (Store.new σ b x)[b]? = some (some x) := by
  unfold Store.new
  split
  · rename_i h; simp [h]
  · rw [List.getElem?_append_right (by simp; omega)]
    have : b - (σ ++ List.replicate (b - σ.length) (none : Option Blk)).length = 0 := by simp; omega
    rw [this]; rfl
theorem Store.new_other (σ : Store) (b : Nat) (x y : Blk) (c : Nat) (h : c ≠ b) : (Store.new σ b x)[c]? = some (some y) ↔ σ[c]? = some (some y) := by
  unfold Store.new
  split
  · rw [List.getElem?_set_ne (fun e => h e.symm)]
  · rcases Nat.lt_or_ge c σ.length with h1 | h1
    · rw [List.append_assoc, List.getElem?_append_left h1]
    · rw [List.getElem?_eq_none h1]
      simp only [reduceCtorEq, iff_false]
      intro hx
      rcases Nat.lt_or_ge c b with h2 | h2
      · rw [List.getElem?_append_left (by simp; omega), List.getElem?_append_right h1, List.getElem?_replicate] at hx
        split at hx <;> simp at hx
      · rw [List.getElem?_eq_none (by simp; omega)] at hx; simp at hx
theorem Store.new_len (σ : Store) (b : Nat) (x : Blk) : σ.length ≤ (Store.new σ b x).length ∧ b < (Store.new σ b x).length := by
  unfold Store.new
  split
  · rename_i h; simp [h]
  · simp; omega

theorem Store.at_some {σ : Store} {b : Nat} {x : Blk} (h : Store.at σ b = some x) : σ[b]? = some (some x) := by
  unfold Store.at at h
  split at h
  · rename_i y hy; simp only [Option.some.injEq] at h; subst h; exact hy
  · simp at h

theorem BlkOK.ext {E : Env} {c c' : Cx} {m : MB} {blk : Blk} (h : BlkOK E c m blk) (e : Ext c c') (hw : c'.w.heap[m.blk]? = c.w.heap[m.blk]?) : BlkOK E c' m blk := by
  cases blk with
  | cells ty g xs =>
    obtain ⟨h1, h2, ca, el, fz, cs, h3, h4, h5, h6, h7, h8⟩ := h
    exact ⟨h1, h2, ca, el, fz, cs, hw.trans h3, h4, h5.ext e, h6, h7, h8⟩
  | mp K es =>
    obtain ⟨h1, h2, vs, ⟨en, cl, h3, h4⟩, h5⟩ := h
    exact ⟨h1, h2, vs, ⟨en, cl, hw.trans h3, h4⟩, h5.ext e⟩

def Cx.at (c : Cx) (w : World) (b : Nat) (m : MB) : Cx := { c with w := w, mu := fun x => if x = b then some m else c.mu x }

/-- A block of the store is written, or moves: nothing else turns. -/
theorem Now.change {E : Env} {c : Cx} {σ : Store} (hn : Now E c σ) {b : Nat} {m m' : MB} (hm : c.mu b = some m) {w : World} (hsz : c.w.heap.size ≤ w.heap.size)
    (hsame : ∀ k, k ≠ m.blk → k < c.w.heap.size → w.heap[k]? = c.w.heap[k]?) (hos : w.os = c.w.os) (htape : w.tape = c.w.tape) (hout : w.output = c.w.output)
    (hgen : m.gen ≤ m'.gen) (hkeep : m'.gen = m.gen → m' = m) (hblk : m'.blk = m.blk ∨ c.w.heap.size ≤ m'.blk) (hlt : m'.blk < w.heap.size) {blk : Blk}
    (hok : Ext c (c.at w b m') → BlkOK E (c.at w b m') m' blk) : Now E (c.at w b m') (σ.set b (some blk)) ∧ Step c (c.at w b m') := by
  obtain ⟨blk0, hb0, hlt0, hI0, hok0⟩ := hn.dom b m hm
  have hbl : b < σ.length := by
    rcases Nat.lt_or_ge b σ.length with h | h
    · exact h
    · simp [List.getElem?_eq_none h] at hb0
  have hext : Ext c (c.at w b m') := by
    refine ⟨fun k h => h, fun k hk => hsame k (fun e => hI0 (e ▸ hn.IF k hk)) (hn.immI k hk), fun b h => h, fun x hx m2 h2 => ?_⟩
    simp only [Cx.at] at h2
    split at h2
    · rename_i e; subst e
      simp only [Option.some.injEq] at h2; subst h2
      exact ⟨m, hm, hgen, hkeep⟩
    · exact ⟨m2, h2, Nat.le_refl _, fun _ => rfl⟩
  refine ⟨⟨by rw [List.length_set]; exact hn.top, fun x hx => by simpa using hn.A x hx, hn.IF, fun k hk => Nat.lt_of_lt_of_le (hn.imm k hk) hsz, ?_, ?_, ?_, fun x mx hx hg => by
      simp only [Cx.at] at hx
      split at hx
      · simp only [Option.some.injEq] at hx; subst hx
        have e := hkeep (by omega)
        rw [e] at hg ⊢
        exact hn.base b m hm hg
      · exact hn.base x mx hx hg⟩, ⟨hext, fun _ h => h, fun k hk => hsame k (fun e => hI0 (e ▸ hk)) (hn.imm k hk), fun _ h => .inl h, ?_, rfl, fun _ h => .inl h, hsz, hos, htape, hout⟩⟩
  · intro x mx hx
    simp only [Cx.at] at hx
    split at hx
    · rename_i e; subst e
      simp only [Option.some.injEq] at hx; subst hx
      refine ⟨blk, by simp [hbl], hlt, ?_, hok hext⟩
      rcases hblk with h | h
      · rw [h]; exact hI0
      · exact fun hk => by have := hn.imm _ hk; omega
    · rename_i e
      obtain ⟨blkx, h1, h2, h3, h4⟩ := hn.dom x mx hx
      refine ⟨blkx, by rw [List.getElem?_set_ne (fun h => e h.symm)]; exact h1, Nat.lt_of_lt_of_le h2 hsz, h3, h4.ext hext (hsame _ (fun h => e (hn.inj _ _ _ _ hx hm h)) h2)⟩
  · intro x bx hx
    by_cases e : x = b
    · subst e; exact ⟨(hn.live x blk0 hb0).1, m', by simp [Cx.at]⟩
    · rw [List.getElem?_set_ne (fun h => e h.symm)] at hx
      obtain ⟨h1, m1, h2⟩ := hn.live x bx hx
      exact ⟨h1, m1, by simp [Cx.at, e, h2]⟩
  · intro x y mx my hx hy he
    simp only [Cx.at] at hx hy
    split at hx <;> split at hy
    · rename_i e1 e2; omega
    · rename_i e1 e2
      simp only [Option.some.injEq] at hx; subst hx
      rcases hblk with h | h
      · exact absurd (hn.inj _ _ _ _ hm hy (h.symm.trans he)) (fun h => e2 h.symm)
      · obtain ⟨_, _, h2, _⟩ := hn.dom y my hy; omega
    · rename_i e1 e2
      simp only [Option.some.injEq] at hy; subst hy
      rcases hblk with h | h
      · exact absurd (hn.inj _ _ _ _ hx hm (he.trans h)) e1
      · obtain ⟨_, _, h2, _⟩ := hn.dom x mx hx; omega
    · exact hn.inj _ _ _ _ hx hy he
  · intro x mx hx
    simp only [Cx.at] at hx
    split at hx
    · simp only [Option.some.injEq] at hx; subst hx
      rcases hblk with h | h
      · exact .inr ⟨b, m, hm, h.symm⟩
      · exact .inl h
    · exact .inr ⟨x, mx, hx, rfl⟩

def Cx.add (c : Cx) (w : World) (b : Nat) (m : MB) : Cx := { c with w := w, mu := fun x => if x = b then some m else c.mu x, A := fun x => c.A x ∨ x = b }

/-- A new block. -/
theorem Now.alloc {E : Env} {c : Cx} {σ : Store} (hn : Now E c σ) {b : Nat} (hA : ¬ c.A b) (htop : c.top ≤ b) {m : MB} {w : World} (hsz : c.w.heap.size ≤ w.heap.size)
    (hsame : ∀ k, k < c.w.heap.size → w.heap[k]? = c.w.heap[k]?) (hos : w.os = c.w.os) (htape : w.tape = c.w.tape) (hout : w.output = c.w.output)
    (hblk : c.w.heap.size ≤ m.blk) (hlt : m.blk < w.heap.size) {blk : Blk} (hok : Ext c (c.add w b m) → BlkOK E (c.add w b m) m blk) (hbase : m.gen = 0 → m.base = 0 := by intro _; rfl) :
    Now E (c.add w b m) (Store.new σ b blk) ∧ Step c (c.add w b m) := by
  have hdead : ∀ x, σ[b]? ≠ some (some x) := fun x h => hA (hn.live b x h).1
  have hmu : c.mu b = none := by
    cases h : c.mu b with
    | none => rfl
    | some m0 => obtain ⟨_, h1, _⟩ := hn.dom b m0 h; exact absurd h1 (hdead _)
  have hext : Ext c (c.add w b m) := by
    refine ⟨fun k h => h, fun k hk => hsame k (hn.immI k hk), fun b h => .inl h, fun x hx m2 h2 => ?_⟩
    simp only [Cx.add] at h2
    split at h2
    · rename_i e; subst e; exact absurd hx hA
    · exact ⟨m2, h2, Nat.le_refl _, fun _ => rfl⟩
  refine ⟨⟨Nat.le_trans hn.top (Store.new_len σ b blk).1, ?_, hn.IF, fun k hk => Nat.lt_of_lt_of_le (hn.imm k hk) hsz, ?_, ?_, ?_, fun x mx hx hg => by
      simp only [Cx.add] at hx
      split at hx
      · simp only [Option.some.injEq] at hx; subst hx; exact hbase hg
      · exact hn.base x mx hx hg⟩, ⟨hext, fun _ h => h, fun k hk => hsame k (hn.imm k hk), fun _ h => .inl h, ?_, rfl, fun x hx => by (rcases hx with h | h; exact .inl h; exact .inr (h ▸ htop)), hsz, hos, htape, hout⟩⟩
  · rintro x (hx | rfl)
    · exact Nat.lt_of_lt_of_le (hn.A x hx) (Store.new_len σ b blk).1
    · exact (Store.new_len σ _ blk).2
  · intro x mx hx
    simp only [Cx.add] at hx
    split at hx
    · rename_i e; subst e
      simp only [Option.some.injEq] at hx; subst hx
      exact ⟨blk, Store.new_self _ _ _, hlt, fun hk => by have := hn.imm _ hk; omega, hok hext⟩
    · rename_i e
      obtain ⟨blkx, h1, h2, h3, h4⟩ := hn.dom x mx hx
      exact ⟨blkx, (Store.new_other _ _ _ _ _ e).2 h1, Nat.lt_of_lt_of_le h2 hsz, h3, h4.ext hext (hsame _ h2)⟩
  · intro x bx hx
    by_cases e : x = b
    · subst e; exact ⟨.inr rfl, m, by simp [Cx.add]⟩
    · obtain ⟨h1, m1, h2⟩ := hn.live x bx ((Store.new_other _ _ _ _ _ e).1 hx)
      exact ⟨.inl h1, m1, by simp [Cx.add, e, h2]⟩
  · intro x y mx my hx hy he
    simp only [Cx.add] at hx hy
    split at hx <;> split at hy
    · rename_i e1 e2; omega
    · simp only [Option.some.injEq] at hx; subst hx
      obtain ⟨_, _, h2, _⟩ := hn.dom y my hy; omega
    · simp only [Option.some.injEq] at hy; subst hy
      obtain ⟨_, _, h2, _⟩ := hn.dom x mx hx; omega
    · exact hn.inj _ _ _ _ hx hy he
  · intro x mx hx
    simp only [Cx.add] at hx
    split at hx
    · simp only [Option.some.injEq] at hx; subst hx; exact .inl hblk
    · exact .inr ⟨x, mx, hx, rfl⟩

/-! Reading and writing variables of a type. -/
section
variable {E : Env}

theorem run_isAgg (O : E.OK) {T : TypeId} (hk : E.kn T = true) (w : World) : (isAgg T).run E.P w = .ok (E.agg T) w := by
  obtain ⟨d, h1, h2⟩ := O.und T hk
  simp only [isAgg, Sem.run_bind, run_underlying h1, Result.andThen_ok]
  rw [h2]
  cases d <;> rfl

theorem run_size (O : E.OK) {T : TypeId} (hk : E.kn T = true) (w : World) : (sizeOf T).run E.P w = .ok (E.size T) w := by
  obtain ⟨i, h1, h2, _⟩ := O.info T hk
  simp [sizeOf, typeInfo, h1, h2]

theorem add_lit' (k o j : Nat) : (⟨k, o, none⟩ : Addr).add j = ⟨k, o + j, none⟩ := by
  unfold Addr.add; split <;> simp_all

theorem cell_of_win {w : World} {k o : Nat} {ca : Array Value} {e : TypeId} {fz : Nat × Nat} {cs : List Value} (hw : w.heap[k]? = some (.cells ca e fz)) (hwin : Win ca o cs) (j : Nat) (v : Value) (h : cs[j]? = some v) :
    w.cell? ((⟨k, o, none⟩ : Addr).add j) = some v := by
  rw [add_lit']
  simp [World.cell?, hw, hwin j v h]

theorem run_loadVar (O : E.OK) {T : TypeId} (hk : E.kn T = true) {w : World} {k o : Nat} {ca : Array Value} {e : TypeId} {fz : Nat × Nat} {cs : List Value} (hw : w.heap[k]? = some (.cells ca e fz))
    (hwin : Win ca o cs) (hl : cs.length = E.size T) : (loadVar T ⟨k, o, none⟩).run E.P w = .ok (mkv E T cs) w := by
  simp only [loadVar, Sem.run_bind, run_isAgg O hk, Result.andThen_ok]
  by_cases ha : E.agg T = true
  · simp only [ha, if_true, Sem.run_bind, run_size O hk, Result.andThen_ok, ← hl, run_loadCells_list w _ cs (cell_of_win hw hwin), Sem.run_pure, mkv, mkv0]
  · have ha' : E.agg T = false := by simpa using ha
    have : cs.length = 1 := by rw [hl, O.scalar T ha']
    obtain ⟨v, rfl⟩ : ∃ v, cs = [v] := by
      match cs, this with
      | [v], _ => exact ⟨v, rfl⟩
    have hc := cell_of_win hw hwin 0 v (by simp)
    rw [add_lit'] at hc
    simp only [Nat.add_zero] at hc
    simp [ha', run_load, hc, mkv, mkv0]


theorem run_storeCells_free (P : Program) (g o : Nat) (t : TypeId) (fz : Nat × Nat) : ∀ (vs : List Value) (i : Nat) (cur : Array Value) (w : World), w.heap[g]? = some (.cells cur t fz) → Free cur fz →
    o + i + vs.length ≤ cur.size → (∀ v ∈ vs, v.oneCell' = true) → (storeCells ⟨g, o, none⟩ vs i).run P w = .ok () (w.setRow g (splice cur.toList (o + i) vs).toArray)
  | [], i, cur, w, hg, _, _, _ => by
    simp only [storeCells, splice, List.append_nil, List.length_nil, Nat.add_zero, List.take_append_drop, Array.toArray_toList]
    rw [setRow_self w g cur t fz hg]
    rfl
  | v :: rest, i, cur, w, hg, hfz, hl, h1 => by
    have hi : o + i < cur.size := by simp at hl; omega
    have hcell : w.cell? ⟨g, o + i, none⟩ = some cur[o + i] := by simp [World.cell?, hg, hi]
    have hfro : w.frozen? ⟨g, o + i, none⟩ = false := by
      have := hfz.not hi
      obtain ⟨lo, hi'⟩ := fz
      simp only [World.frozen?, hg, Bool.and_eq_false_iff, decide_eq_false_iff_not]
      simp only at this
      omega
    have hst : (store ((⟨g, o, none⟩ : Addr).add i) v).run P w = .ok () (w.setRow g (cur.setIfInBounds (o + i) v)) := by
      rw [add_lit', run_store P w _ v _ (h1 v (by simp)), hcell]
      simp [hfro, setCell_eq_setRow w g (o + i) cur t fz v hg]
    have ih := run_storeCells_free P g o t fz rest (i + 1) (cur.setIfInBounds (o + i) v) (w.setRow g (cur.setIfInBounds (o + i) v)) (setRow_heap w g cur _ t _ hg)
      (by unfold Free at *; simpa using hfz) (by simp at hl ⊢; omega) (fun x hx => h1 x (by simp [hx]))
    simp only [storeCells, Sem.run_bind, hst, Result.andThen_ok, ih, setRow_setRow]
    congr 3
    have e := list_seg_step cur.toList (o + i) v rest (by simp at hl ⊢; omega)
    simpa [splice, Array.toList_setIfInBounds, Nat.add_assoc] using e

theorem run_storeVar (O : E.OK) {T : TypeId} (hk : E.kn T = true) {w : World} {k o : Nat} {ca : Array Value} {e : TypeId} {fz : Nat × Nat} {v : Value} {ds : List Value} (hw : w.heap[k]? = some (.cells ca e fz))
    (hfree : Free ca fz) (hv : v.cells.toList = ds) (hl : ds.length = E.size T) (hone : ∀ x ∈ ds, x.oneCell' = true) (hfit : o + ds.length ≤ ca.size) :
    (storeVar T ⟨k, o, none⟩ v).run E.P w = .ok () (w.setRow k (splice ca.toList o ds).toArray) := by
  have hs : v.cells.size = E.size T := by rw [← hl, ← hv]; simp
  simp only [storeVar, Sem.run_bind, run_size O hk, Result.andThen_ok, hs, ne_eq, not_true_eq_false, if_false, hv]
  have := run_storeCells_free E.P k o e fz ds 0 ca w hw hfree (by simpa using hfit) hone
  simpa using this

section
variable {E : Env} {σ : Store} {cx : Cx}
theorem ownsMap_n {H : Type} {w : World} {P : Program} {k : TypeId} {R : Value → Option (DataW H × List MemPlace)} {b n : Nat} {ds : List (Lit × DataW H)} (h : w.ownsMap P k R b n (.map ds)) : w.ownsMap P k R b ds.length (.map ds) := by
  obtain ⟨es, clock, hb, F, hs, hD⟩ := h
  refine ⟨es, clock, hb, F, ?_, hD⟩
  simp only [DataW.map.injEq] at hD
  rw [hD, length_sorted]; simp

/-- A map of the store, at the machine. -/
theorem Now.mp (hn : Now E cx σ) {b K : Nat} {es : List (Lit × PV)} (hb : Store.at σ b = some (.mp K es)) {v : Value} (hv : V E cx (.map b) v) :
    ∃ m ds, cx.mu b = some m ∧ m.gen = 0 ∧ m.ty = K ∧ v = .map (some m.blk) ∧ cx.w.ownsMap E.P K asHeld m.blk ds.length (.map ds) ∧ ML E cx es ds := by
  obtain ⟨hA, m, hm⟩ := hn.live b _ (Store.at_some hb)
  obtain ⟨blk, h1, h2, h3, h4⟩ := hn.dom b m hm
  rw [Store.at_some hb] at h1; simp only [Option.some.injEq] at h1; subst h1
  obtain ⟨k1, k2, ds, k3, k4⟩ := h4
  refine ⟨m, ds, hm, k1, k2, ?_, ownsMap_n k3, k4⟩
  cases hv with | one _ _ h hs => cases h with | map _ _ _ _ h => exact h m hm k1
end

end
end Go.Proofs.Ythllcknfidnfaaa
