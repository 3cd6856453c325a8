/- Regions that draw their order: soundness. -/
import Derived.Test.YthllcknfidnfaaaSv
set_option linter.unusedVariables false
set_option linter.unusedSimpArgs false
namespace Go.Proofs.Ythllcknfidnfaaa
open Go


structure Chk (ops : Array Oper) (tab : Tab) (m N : Nat) : Prop where
  le : m ≤ ops.size
  one : ∀ i o, ops[i]? = some o → chkOne ops tab m N i o = true
  two : ∀ i j o o', ops[i]? = some o → ops[j]? = some o' → chkTwo ops tab i j o o' = true

theorem arr_lt {α : Type} {a : Array α} {i : Nat} {x : α} (h : a[i]? = some x) : i < a.size := by
  rcases Nat.lt_or_ge i a.size with h1 | h1
  · exact h1
  · simp [Array.getElem?_eq_none h1] at h

theorem Chk.of {ops : Array Oper} {tab : Tab} {m N : Nat} (h : chkDraw ops tab m N = true) : Chk ops tab m N := by
  unfold chkDraw at h
  simp only [Bool.and_eq_true, decide_eq_true_eq, List.all_eq_true, List.mem_range] at h
  obtain ⟨h1, h2⟩ := h
  refine ⟨h1, fun i o ho => ?_, fun i j o o' ho ho' => ?_⟩
  · have := h2 i (arr_lt ho)
    rw [ho] at this
    simp only [Bool.and_eq_true] at this
    exact this.1
  · have := h2 i (arr_lt ho)
    rw [ho] at this
    simp only [Bool.and_eq_true, List.all_eq_true, List.mem_range] at this
    have := this.2 j (arr_lt ho')
    rw [ho'] at this
    exact this

section
variable {E : Env} {N z : Nat} {Q : Post} {ops : Array Oper} {tab : Tab} {base m : Nat} {rs : List Rec} {fr : Fr} {σ : Store} {L : Nat → Bool}

theorem Chk.pr_lt (c : Chk ops tab m N) {i k : Nat} {o : Oper} (ho : ops[i]? = some o) (hk : k ∈ tab.pr i) : k < i := by
  have := c.one i o ho
  simp only [chkOne, Bool.and_eq_true, List.all_eq_true, decide_eq_true_eq] at this
  exact (this.1.1.1.1 k hk).1
theorem Chk.pr_edge (c : Chk ops tab m N) {i k : Nat} {o : Oper} (ho : ops[i]? = some o) (hk : k ∈ tab.pr i) : ∃ e ∈ o.after, Region.binds .any e = true ∧ (e.on = k ∨ (e.on < i ∧ k ∈ tab.pr e.on)) := by
  have := c.one i o ho
  simp only [chkOne, Bool.and_eq_true, List.all_eq_true, decide_eq_true_eq] at this
  have := (this.1.1.1.1 k hk).2
  simp only [← Array.any_toList, List.any_eq_true, Array.mem_toList_iff, Bool.and_eq_true, Bool.or_eq_true, beq_iff_eq, decide_eq_true_eq, List.contains_iff_mem] at this
  exact this
theorem Chk.after_lt (c : Chk ops tab m N) {i : Nat} {o : Oper} (ho : ops[i]? = some o) : ∀ e ∈ o.after, Region.binds .any e = true → e.on < i := by
  have := c.one i o ho
  simp only [chkOne, Bool.and_eq_true] at this
  have := this.1.1.1.2
  simp only [Array.all_eq_true_iff_forall_mem, Bool.or_eq_true, Bool.not_eq_true', decide_eq_true_eq] at this
  intro e he hb
  rcases this e he with h | h
  · simp [hb] at h
  · exact h
theorem Chk.slot (c : Chk ops tab m N) {i : Nat} {o : Oper} (ho : ops[i]? = some o) : tab.slot i < ops.size := by
  have := c.one i o ho
  simp only [chkOne, Bool.and_eq_true, decide_eq_true_eq] at this
  exact this.1.1.2
theorem Chk.dst (c : Chk ops tab m N) {i : Nat} {o : Oper} (ho : ops[i]? = some o) : ∀ t, o.dst = some t → t < N := by
  have := c.one i o ho
  simp only [chkOne, Bool.and_eq_true] at this
  intro t ht
  have := this.1.2
  rw [ht] at this; simpa using this
theorem Chk.seq (c : Chk ops tab m N) {i : Nat} {o : Oper} (ho : ops[i]? = some o) (hi : m ≤ i) : ∀ k, k < i → k ∈ tab.pr i := by
  have := c.one i o ho
  simp only [chkOne, Bool.and_eq_true, Bool.or_eq_true, decide_eq_true_eq, List.all_eq_true, List.mem_range, List.contains_iff_mem] at this
  rcases this.2 with h | h
  · omega
  · exact h
theorem Chk.slots (c : Chk ops tab m N) {i j : Nat} {o o' : Oper} (ho : ops[i]? = some o) (ho' : ops[j]? = some o') (hne : i ≠ j) : tab.slot i ≠ tab.slot j := by
  have := c.two i j o o' ho ho'
  simp only [chkTwo, Bool.or_eq_true, beq_iff_eq, Bool.and_eq_true, bne_iff_ne] at this
  rcases this with h | h
  · exact absurd h hne
  · exact h.1
theorem dstOf_some {j : Nat} {t : Tmp} (h : dstOf ops j = some t) : ∃ o, ops[j]? = some o ∧ o.dst = some t := by
  unfold dstOf at h
  cases ho : ops[j]? with
  | none => simp [ho] at h
  | some o => exact ⟨o, rfl, by simpa [ho] using h⟩
theorem Chk.dsts (c : Chk ops tab m N) {i j : Nat} {t : Tmp} (hj : dstOf ops j = some t) (hne : i ≠ j) : dstOf ops i ≠ some t := fun hi => by
  obtain ⟨o, h1, h2⟩ := dstOf_some hi
  obtain ⟨o', h3, h4⟩ := dstOf_some hj
  have := c.two i j o o' h1 h3
  simp only [chkTwo, Bool.or_eq_true, beq_iff_eq, Bool.and_eq_true, h4, bne_iff_ne] at this
  rcases this with h | h
  · exact hne h
  · exact h.2.1 h2
theorem Chk.looks (c : Chk ops tab m N) {i j : Nat} {t : Tmp} {o : Oper} (ho : ops[i]? = some o) (hj : dstOf ops j = some t) (hne : i ≠ j) (ht : t ∈ o.looksAt ops) : j ∈ tab.pr i ∨ i ∈ tab.pr j := by
  obtain ⟨o', h3, h4⟩ := dstOf_some hj
  have := c.two i j o o' ho h3
  simp only [chkTwo, Bool.or_eq_true, beq_iff_eq, Bool.and_eq_true, h4, Bool.not_eq_true', List.contains_iff_mem] at this
  rcases this with h | h
  · exact absurd h hne
  · rcases h.2.2 with (h | h) | h
    · have := List.contains_iff_mem.2 ht
      rw [h] at this; simp at this
    · exact .inl h
    · exact .inr h

theorem Fr.get_put (fr : Fr) (d : Option Tmp) (v : PV) (t : Nat) : Fr.get (Fr.put fr d v) t = if d = some t then some v else Fr.get fr t := by
  cases d with
  | none => simp [Fr.put]
  | some d => simp [Fr.put, Fr.get]

theorem frM_other {t : Nat} : ∀ n, (∀ j, j < n → L j = true → dstOf ops j ≠ some t) → Fr.get (frM ops rs L fr n) t = Fr.get fr t
  | 0, _ => rfl
  | n + 1, h => by
    have ih := frM_other (t := t) n fun j hj => h j (by omega)
    simp only [frM]
    split
    · rename_i hL
      rw [Fr.get_put, if_neg (h n (by omega) hL)]; exact ih
    · exact ih
theorem frM_at {t j : Nat} : ∀ n, j < n → L j = true → dstOf ops j = some t → (∀ i, i ≠ j → dstOf ops i ≠ some t) → Fr.get (frM ops rs L fr n) t = some (rs.getD j default).v
  | 0, h, _, _, _ => by omega
  | n + 1, h, hL, hd, hu => by
    simp only [frM]
    by_cases e : n = j
    · subst e
      rw [if_pos hL, Fr.get_put, if_pos hd]
    · have ih := frM_at (t := t) (j := j) n (by omega) hL hd hu
      split
      · rw [Fr.get_put, if_neg (hu n e)]; exact ih
      · exact ih

theorem agreeF (c : Chk ops tab m N) {i : Nat} {o : Oper} (ho : ops[i]? = some o) (hi : L i = false) (hcl : ∀ j, L j = true → ∀ k ∈ tab.pr j, L k = true) (hpr : ∀ k ∈ tab.pr i, L k = true) {n : Nat} (hn : i < n) {t : Tmp} (ht : t ∈ o.looksAt ops) :
    Fr.get (frM ops rs L fr n) t = Fr.get (frM ops rs allT fr i) t := by
  by_cases h : ∃ j, j < n ∧ dstOf ops j = some t ∧ j ≠ i
  · obtain ⟨j, hj, hd, hne⟩ := h
    have hu : ∀ k, k ≠ j → dstOf ops k ≠ some t := fun k hk => c.dsts hd hk
    rcases c.looks ho hd (Ne.symm hne) ht with h1 | h1
    · rw [frM_at n hj (hpr j h1) hd hu, frM_at i (c.pr_lt ho h1) rfl hd hu]
    · obtain ⟨o', h3, _⟩ := dstOf_some hd
      have hij := c.pr_lt h3 h1
      have hLj : ¬ L j = true := fun hL => by have := hcl j hL i h1; rw [hi] at this; simp at this
      rw [frM_other n fun k hk hL hdk => by
          by_cases e : k = j
          · subst e; exact hLj hL
          · exact hu k e hdk,
        frM_other i fun k hk hL hdk => hu k (by omega) hdk]
  · rw [frM_other n fun k hk hL hdk => h ⟨k, hk, hdk, fun e => by subst e; rw [hi] at hL; simp at hL⟩,
      frM_other i fun k hk hL hdk => h ⟨k, by omega, hdk, by omega⟩]

theorem at_wr_other {σ : Store} {w : Option (Nat × Blk)} {b : Nat} (h : w.map (·.1) ≠ some b) : Store.at (σ.wr w) b = Store.at σ b := by
  cases w with
  | none => rfl
  | some p =>
    simp only [Option.map_some, ne_eq, Option.some.injEq] at h
    simp only [Store.wr, Store.at, List.getElem?_set_ne h]
theorem at_wr_congr {σ τ : Store} {w : Option (Nat × Blk)} {b : Nat} (hl : σ.length = τ.length) (h : Store.at σ b = Store.at τ b) : Store.at (σ.wr w) b = Store.at (τ.wr w) b := by
  cases w with
  | none => exact h
  | some p =>
    by_cases e : p.1 = b
    · subst e
      simp only [Store.wr, Store.at, List.getElem?_set_self', hl]
      cases h1 : σ[p.1]? <;> cases h2 : τ[p.1]? <;> simp_all [List.getElem?_eq_none_iff]
    · have := at_wr_other (σ := σ) (w := some p) (b := b) (by simpa using e)
      rw [this, at_wr_other (by simpa using e)]; exact h

theorem clear_w {rd rd' : List Nat} {w w' : Option Nat} (h : clear rd w rd' w' = true) : (∀ b, w = some b → b ∉ rd' ∧ w' ≠ some b) ∧ ∀ b, w' = some b → b ∉ rd := by
  unfold clear at h
  simp only [Bool.and_eq_true] at h
  refine ⟨fun b hb => ?_, fun b hb => ?_⟩
  · subst hb; have := h.1; simpa [List.contains_iff_mem] using this
  · subst hb; have := h.2; simpa [List.contains_iff_mem] using this

theorem agreeS (t : Trace E N ops tab base fr σ rs) {i n : Nat} (hi : L i = false) (hcl : ∀ j, L j = true → ∀ k ∈ tab.pr j, L k = true) (hin : i < n) (hn : n ≤ rs.length) (hpr : ∀ k ∈ tab.pr i, L k = true) {b : Nat} (hb : b ∈ (rs.getD i default).rd) :
    Store.at (stM rs L σ n) b = Store.at (stM rs allT σ i) b := by
  have h1 : ∀ k, k ≤ i → Store.at (stM rs L σ k) b = Store.at (stM rs allT σ k) b := by
    intro k
    induction k with
    | zero => intro _; rfl
    | succ k ih =>
      intro hk
      have ih := ih (by omega)
      simp only [stM, allT, if_true]
      split
      · exact at_wr_congr (by rw [stM_len, stM_len]) ih
      · rename_i hL
        rcases t.conf i k (by omega) (by omega) with h2 | h2
        · exact absurd (hpr k h2) hL
        · rw [ih]; exact (at_wr_other fun e => (clear_w h2).2 b e hb).symm
  have h2 : ∀ k, i ≤ k → k ≤ n → Store.at (stM rs L σ k) b = Store.at (stM rs L σ i) b := by
    intro k hik
    induction hik with
    | refl => intro _; rfl
    | step hk ih =>
      rename_i k
      intro hkn
      have ih := ih (by omega)
      simp only [stM]
      split
      · rename_i hL
        have hne : k ≠ i := fun e => by subst e; rw [hi] at hL; simp at hL
        have hk : i ≤ k := hk
        rcases t.conf k i (by omega) (by omega) with h2 | h2
        · have := hcl k hL i h2
          rw [hi] at this; simp at this
        · rw [at_wr_other fun e => ((clear_w h2).1 b e).1 hb]; exact ih
      · exact ih
  rw [h2 n (by omega) (Nat.le_refl _), h1 i (Nat.le_refl _)]

theorem wr_comm {σ : Store} {w w' : Option (Nat × Blk)} (h : ∀ b, w.map (·.1) = some b → w'.map (·.1) ≠ some b) : (σ.wr w).wr w' = (σ.wr w').wr w := by
  cases w with
  | none => rfl
  | some p =>
    cases w' with
    | none => rfl
    | some q =>
      have := h p.1 rfl
      simp only [Option.map_some, ne_eq, Option.some.injEq] at this
      simp only [Store.wr]
      exact List.set_comm _ _ fun e => this e.symm

/-- With one more. -/
def more (L : Nat → Bool) (i : Nat) : Nat → Bool := fun j => if j = i then true else L j

theorem stepS (t : Trace E N ops tab base fr σ rs) {i : Nat} (hi : L i = false) (hcl : ∀ j, L j = true → ∀ k ∈ tab.pr j, L k = true) : ∀ n, i < n → n ≤ rs.length → stM rs (more L i) σ n = (stM rs L σ n).wr (rs.getD i default).w
  | 0, h, _ => by omega
  | n + 1, h, hn => by
    by_cases e : n = i
    · subst e
      simp only [stM, more, if_true, hi, Bool.false_eq_true, if_false]
      have e : stM rs (more L n) σ n = stM rs L σ n := stM_congr n (fun _ _ => rfl) fun k hk => if_neg (by omega)
      rw [e]
    · have ih := stepS t hi hcl n (by omega) (by omega)
      simp only [stM, more, if_neg e]
      split
      · rename_i hL
        rw [ih]
        refine (wr_comm fun b hb hb' => ?_).symm
        rcases t.conf n i (by omega) (by omega) with h2 | h2
        · have := hcl n hL i h2
          rw [hi] at this; simp at this
        · exact ((clear_w h2).1 b hb).2 hb'
      · exact ih

theorem stepF (c : Chk ops tab m N) {i n : Nat} {o : Oper} (ho : ops[i]? = some o) (hi : L i = false) (hin : i < n) (t : Tmp) : Fr.get (frM ops rs (more L i) fr n) t = Fr.get (Fr.put (frM ops rs L fr n) o.dst (rs.getD i default).v) t := by
  have hdo : dstOf ops i = o.dst := by simp [dstOf, ho]
  rw [Fr.get_put]
  split
  · rename_i hd
    have hd' : dstOf ops i = some t := hdo.trans hd
    exact frM_at n hin (by simp [more]) hd' fun k hk => c.dsts hd' hk
  · rename_i hd
    have : ∀ k, Fr.get (frM ops rs (more L i) fr k) t = Fr.get (frM ops rs L fr k) t := by
      intro k
      induction k with
      | zero => rfl
      | succ k ih =>
        simp only [frM]
        by_cases e : k = i
        · subst e
          rw [if_pos (show more L k k = true by simp [more]), if_neg (show ¬ L k = true by simp [hi]), Fr.get_put, if_neg]
          · exact ih
          · intro h1; exact hd (hdo ▸ h1)
        · rw [show more L i k = L k by simp [more, e]]
          split
          · rw [Fr.get_put, Fr.get_put, ih]
          · exact ih
    exact this n

theorem FR.congr {cx : Cx} {fr fr' : Fr} {tmps : Array Value} (h : FR E cx N fr tmps) (e : ∀ t, Fr.get fr' t = Fr.get fr t) : FR E cx N fr' tmps := ⟨h.1, fun t x ht => h.2 t x (e t ▸ ht)⟩

/-- How many are not listed. -/
def lefts (n : Nat) (L : Nat → Bool) : Nat := (List.range n).countP fun j => !L j
theorem lefts_list {i : Nat} (hi : L i = false) : ∀ l : List Nat, i ∈ l → (l.countP fun j => !more L i j) < l.countP fun j => !L j
  | [], h => by simp at h
  | x :: l, h => by
    have mono : (l.countP fun j => !more L i j) ≤ l.countP fun j => !L j := List.countP_mono_left fun x _ hx => by
      simp only [more, Bool.not_eq_true'] at hx ⊢
      split at hx
      · simp at hx
      · exact hx
    rw [List.countP_cons, List.countP_cons]
    by_cases e : x = i
    · subst e
      have e1 : more L x x = true := by simp [more]
      rw [e1, hi]
      simp only [Bool.not_true, Bool.false_eq_true, if_false, Bool.not_false, if_true]
      omega
    · have ih := lefts_list hi l (by
        rcases List.mem_cons.1 h with h | h
        · exact absurd h.symm e
        · exact h)
      have : more L i x = L x := by simp [more, e]
      rw [this]; omega
theorem lefts_lt {i n : Nat} (hi : L i = false) (hn : i < n) : lefts n (more L i) < lefts n L := lefts_list hi _ (by simpa using hn)
theorem lefts_zero {n : Nat} (h : lefts n L = 0) : ∀ j, j < n → L j = true := fun j hj => by
  have := List.countP_eq_zero.1 h j (by simpa using hj)
  simpa using this

def LS (listed : Array Bool) : Nat → Bool := fun j => listed.getD j false
theorem LS_set {listed : Array Bool} {i : Nat} (hi : i < listed.size) : LS (listed.setIfInBounds i true) = more (LS listed) i := by
  funext j
  unfold LS more
  by_cases e : j = i
  · subst e; simp [Array.getD, hi]
  · rw [if_neg e]; exact getD_set_ne false (Ne.symm e)
theorem LS_getD {listed : Array Bool} {j : Nat} (hj : j < listed.size) (d : Bool) : listed.getD j d = LS listed j := by simp [LS, Array.getD, hj]

theorem ready_iff {listed : Array Bool} (hsz : listed.size = ops.size) {j : Nat} : j ∈ Region.ready .any ops listed ↔ LS listed j = false ∧ ∃ o, ops[j]? = some o ∧ ∀ e ∈ o.after, Region.binds .any e = true → LS listed e.on = true := by
  rw [mem_ready]
  constructor
  · rintro ⟨h1, o, h2, h3⟩
    exact ⟨(LS_getD (by rw [hsz]; exact arr_lt h2) true) ▸ h1, o, h2, h3⟩
  · rintro ⟨h1, o, h2, h3⟩
    exact ⟨(LS_getD (by rw [hsz]; exact arr_lt h2) true).symm ▸ h1, o, h2, h3⟩

theorem Chk.ready_nil (c : Chk ops tab m N) {listed : Array Bool} (hsz : listed.size = ops.size) (h : Region.ready .any ops listed = []) : ∀ j, j < ops.size → LS listed j = true := by
  intro j
  induction j using Nat.strongRecOn with
  | ind j ih =>
    intro hj
    cases hL : LS listed j with
    | true => rfl
    | false =>
      obtain ⟨o, ho⟩ : ∃ o, ops[j]? = some o := ⟨ops[j], by simp [hj]⟩
      have : j ∈ Region.ready .any ops listed := (ready_iff hsz).2 ⟨hL, o, ho, fun e he hb => ih e.on (c.after_lt ho e he hb) (by have := c.after_lt ho e he hb; omega)⟩
      rw [h] at this; simp at this
theorem Chk.ready_pr (c : Chk ops tab m N) {listed : Array Bool} (hsz : listed.size = ops.size) (hcl : ∀ j, LS listed j = true → ∀ k ∈ tab.pr j, LS listed k = true) {i : Nat} (h : i ∈ Region.ready .any ops listed) : ∀ k ∈ tab.pr i, LS listed k = true := by
  obtain ⟨h1, o, ho, h2⟩ := (ready_iff hsz).1 h
  intro k hk
  obtain ⟨e, he, hb, h3⟩ := c.pr_edge ho hk
  rcases h3 with rfl | ⟨h3, h4⟩
  · exact h2 e he hb
  · exact hcl e.on (h2 e he hb) k h4

/-- What stands in a row to the end. -/
theorem any_seq (c : Chk ops tab m N) {ds : List Deferred} {cx0 : Cx} : ∀ (fuel : Nat) (listed : Array Bool) (j : Nat) (fr : Fr) (σ : Store) (cx : Cx) (a : Act), listed.size = ops.size → m ≤ j → (∀ i, i < ops.size → (LS listed i = true ↔ i < j)) →
    lefts ops.size (LS listed) ≤ fuel → ROps E N z ops Q (Q .normal) (ops.toList.drop j) fr σ → cx.top ≤ z → Now E cx σ → FR E cx N fr a.tmps → Step (cx0.below z) cx → a.defers = ds → wpAny E.P .any ops (Lift E N z ds cx0 Q) fuel listed a cx.w := by
  intro fuel
  induction fuel with
  | zero =>
    intro listed j fr σ cx a hsz hmj hL hf hR ht hn hfr hs hd
    have hall := lefts_zero (Nat.le_zero.1 hf)
    have hge : ops.size ≤ j := by
      rcases Nat.lt_or_ge j ops.size with h | h
      · have := (hL j h).1 (hall j h); omega
      · exact h
    rw [List.drop_eq_nil_of_le (by simpa using hge)] at hR
    refine ⟨?_, .normal, fr, σ, cx, rfl, hR, trivial, hn, hfr, hd, hs⟩
    rw [List.eq_nil_iff_forall_not_mem]
    intro i hi
    obtain ⟨h1, o, ho, _⟩ := (ready_iff hsz).1 hi
    rw [hall i (arr_lt ho)] at h1; simp at h1
  | succ fuel ih =>
    intro listed j fr σ cx a hsz hmj hL hf hR ht hn hfr hs hd
    refine ⟨fun hnil => ?_, fun i hi => ?_⟩
    · have hall := c.ready_nil hsz hnil
      have hge : ops.size ≤ j := by
        rcases Nat.lt_or_ge j ops.size with h | h
        · have := (hL j h).1 (hall j h); omega
        · exact h
      rw [List.drop_eq_nil_of_le (by simpa using hge)] at hR
      exact ⟨.normal, fr, σ, cx, rfl, hR, trivial, hn, hfr, hd, hs⟩
    · obtain ⟨h1, o, ho, h2⟩ := (ready_iff hsz).1 hi
      have hlt := arr_lt ho
      have hij : j ≤ i := by
        rcases Nat.lt_or_ge i j with h | h
        · rw [(hL i hlt).2 h] at h1; simp at h1
        · exact h
      have hcl : ∀ j', LS listed j' = true → ∀ k ∈ tab.pr j', LS listed k = true := fun j' hj' k hk => by
        have hj'lt : j' < ops.size := by
          rcases Nat.lt_or_ge j' ops.size with h | h
          · exact h
          · simp [LS, Array.getD, hsz, Nat.not_lt.2 h] at hj'
        obtain ⟨o', ho'⟩ : ∃ o', ops[j']? = some o' := ⟨ops[j'], by simp [hj'lt]⟩
        have hk' := c.pr_lt ho' hk
        have := (hL j' hj'lt).1 hj'
        exact (hL k (by omega)).2 (by omega)
      have : i = j := by
        rcases Nat.eq_or_lt_of_le hij with h | h
        · exact h.symm
        · have := c.ready_pr hsz hcl hi j (c.seq ho (by omega) j h)
          have := (hL j (by omega)).1 this
          omega
      subst this
      rw [show ops.toList.drop i = o :: ops.toList.drop (i + 1) by
        rw [List.drop_eq_getElem_cons (by simpa using hlt)]
        have : ops.toList[i]'(by simpa using hlt) = o := by
          have := ho; simp only [Array.getElem?_eq_getElem hlt, Option.some.injEq] at this; simpa using this
        rw [this]] at hR
      obtain ⟨b, hb, hR⟩ := hR
      have hw := wanted_of_guard hfr hb
      have hmore := LS_set (listed := listed) (i := i) (by omega)
      have hL' : ∀ k, k < ops.size → (LS (listed.setIfInBounds i true) k = true ↔ k < i + 1) := fun k hk => by
        rw [hmore]; unfold more
        by_cases e : k = i
        · subst e; simp
        · rw [if_neg e, hL k hk]; omega
      have hfu : lefts ops.size (LS (listed.setIfInBounds i true)) ≤ fuel := by
        have := lefts_lt h1 hlt
        rw [hmore]; omega
      unfold wpOp
      rw [ho]
      simp only [hw]
      cases b with
      | true =>
        simp only [if_true] at hR ⊢
        refine .inl (wpList_of_ROps.Oper.wp_mono' ?_ ?_ (hR cx a ht hn hfr))
        · rintro a' w' ⟨fr', σ', cx', rfl, hk, hn', hf', hd', hs'⟩
          exact ih _ (i + 1) fr' σ' cx' a' (by simpa using hsz) (by omega) hL' hfu hk (hs'.top ▸ ht) hn' hf' (hs.transB (hs'.ofBelow ht)) (hd'.trans hd)
        · intro e a' w' hl; rw [hd] at hl; exact Lift.step hs hl
      | false =>
        simp only [Bool.false_eq_true, if_false] at hR ⊢
        have hput : FR E cx N (Fr.put fr o.dst (.tup [])) (a.put o.dst undef).tmps := hfr.put V_skip (c.dst ho)
        have hde : (a.put o.dst undef).defers = a.defers := by cases o.dst <;> rfl
        exact ih _ (i + 1) _ σ cx _ (by simpa using hsz) (by omega) hL' hfu hR ht hn hput hs (hde.trans hd)

/-- What stands in no row. -/
theorem any_free (c : Chk ops tab m N) {ds : List Deferred} {cx0 : Cx} (t : Trace E N ops tab base fr σ rs) (hm : rs.length = m) (hσ : σ.length = base + ops.size)
    (hK : ROps E N z ops Q (Q .normal) (ops.toList.drop m) (frM ops rs allT fr m) (stM rs allT σ m)) : ∀ (fuel : Nat) (listed : Array Bool) (cx : Cx) (a : Act), listed.size = ops.size →
    (∀ j, LS listed j = true → j < m ∧ ∀ k ∈ tab.pr j, LS listed k = true) → lefts ops.size (LS listed) ≤ fuel → cx.top ≤ z → cx.top ≤ base → Now E cx (stM rs (LS listed) σ m) → FR E cx N (frM ops rs (LS listed) fr m) a.tmps →
    (∀ b, cx.A b → b < base ∨ (∃ i, LS listed i = true ∧ b = base + tab.slot i) ∨ base + ops.size ≤ b) → Step (cx0.below z) cx → a.defers = ds → wpAny E.P .any ops (Lift E N z ds cx0 Q) fuel listed a cx.w := by
  intro fuel
  have turn : ∀ (fuel : Nat) (listed : Array Bool) (cx : Cx) (a : Act), listed.size = ops.size → (∀ j, LS listed j = true → j < m ∧ ∀ k ∈ tab.pr j, LS listed k = true) → lefts ops.size (LS listed) ≤ fuel → cx.top ≤ z →
      Now E cx (stM rs (LS listed) σ m) → FR E cx N (frM ops rs (LS listed) fr m) a.tmps → Step (cx0.below z) cx → a.defers = ds → (∀ j, j < m → LS listed j = true) → wpAny E.P .any ops (Lift E N z ds cx0 Q) fuel listed a cx.w := by
    intro fuel listed cx a hsz hcl hf ht hn hfr hs hd hall
    refine any_seq c fuel listed m (frM ops rs allT fr m) (stM rs allT σ m) cx a hsz (Nat.le_refl _) (fun i hi => ⟨fun h => (hcl i h).1, hall i⟩) hf hK ht ?_ ?_ hs hd
    · have e : stM rs allT σ m = stM rs (LS listed) σ m := stM_congr m (fun _ _ => rfl) fun k hk => (hall k hk).symm
      rw [e]; exact hn
    · have e : frM ops rs allT fr m = frM ops rs (LS listed) fr m := frM_congr m (fun _ _ => rfl) fun k hk => (hall k hk).symm
      rw [e]; exact hfr
  induction fuel with
  | zero =>
    intro listed cx a hsz hcl hf ht htb hn hfr hA hs hd
    exact turn 0 listed cx a hsz hcl hf ht hn hfr hs hd fun j hj => lefts_zero (Nat.le_zero.1 hf) j (by have := c.le; omega)
  | succ fuel ih =>
    intro listed cx a hsz hcl hf ht htb hn hfr hA hs hd
    by_cases hall : ∀ j, j < m → LS listed j = true
    · exact turn _ listed cx a hsz hcl hf ht hn hfr hs hd hall
    · refine ⟨fun hnil => absurd (fun j hj => c.ready_nil hsz hnil j (by have := c.le; omega)) hall, fun i hi => ?_⟩
      obtain ⟨h1, o, ho, h2⟩ := (ready_iff hsz).1 hi
      have hlt := arr_lt ho
      have hcl' : ∀ j, LS listed j = true → ∀ k ∈ tab.pr j, LS listed k = true := fun j hj => (hcl j hj).2
      have hpr := c.ready_pr hsz hcl' hi
      have him : i < m := by
        rcases Nat.lt_or_ge i m with h | h
        · exact h
        · exact absurd (fun j hj => hpr j (c.seq ho h j (by omega))) hall
      obtain ⟨o', ho', hrec⟩ := t.ok i (by omega)
      rw [ho] at ho'; simp only [Option.some.injEq] at ho'; subst ho'
      have hmore := LS_set (listed := listed) (i := i) (by omega)
      have hnA : ¬ cx.A (base + tab.slot i) := fun hb => by
        rcases hA _ hb with h | ⟨k, hk, he⟩ | h
        · omega
        · have hne : i ≠ k := fun e => by subst e; rw [h1] at hk; simp at hk
          have hkm := (hcl k hk).1
          obtain ⟨ok, hok, _⟩ := t.ok k (by omega)
          exact c.slots ho hok hne (by omega)
        · have := c.slot ho; omega
      have := hrec.2 (frM ops rs (LS listed) fr m) (stM rs (LS listed) σ m) (fun t' ht' => agreeF c ho h1 hcl' hpr him ht') (fun b hb => agreeS t h1 hcl' him (by omega) hpr hb) (by rw [stM_len]; exact hσ) cx a (Lift E N z ds cx0 Q)
        (wpAny E.P .any ops (Lift E N z ds cx0 Q) fuel (listed.setIfInBounds i true)) htb hn hfr hnA fun cx' val hv hn' hs' hA' => by
        refine ih _ cx' _ (by simpa using hsz) (fun j hj => ?_) ?_ (hs'.top ▸ ht) (hs'.top ▸ htb) ?_ ?_ ?_ (hs.transB (hs'.ofBelow ht)) ?_
        · rw [hmore] at hj ⊢
          unfold more at hj ⊢
          by_cases e : j = i
          · subst e; exact ⟨him, fun k hk => by rw [if_neg (by have := c.pr_lt ho hk; omega)]; exact hpr k hk⟩
          · rw [if_neg e] at hj
            exact ⟨(hcl j hj).1, fun k hk => by split; rfl; exact (hcl j hj).2 k hk⟩
        · have := lefts_lt h1 hlt
          rw [hmore]; omega
        · rw [hmore, stepS t h1 hcl' m him (by omega)]; exact hn'
        · rw [hmore]
          exact ((hfr.step hs').put hv (c.dst ho)).congr fun t' => stepF c ho h1 him t'
        · intro b hb
          rcases hA' b hb with h | h | h
          · rcases hA b h with h | ⟨k, hk, he⟩ | h
            · exact .inl h
            · refine .inr (.inl ⟨k, ?_, he⟩); rw [hmore]; unfold more; split; rfl; exact hk
            · exact .inr (.inr h)
          · exact .inr (.inl ⟨i, by rw [hmore]; simp [more], h⟩)
          · exact .inr (.inr h)
        · have : (a.put o.dst val).defers = a.defers := by cases o.dst <;> rfl
          exact this.trans hd
      unfold wpOp
      rw [ho]
      simp only
      split
      · rename_i hw; rw [if_pos hw] at this; exact .inl this
      · rename_i hw; rw [if_neg hw] at this; exact this

theorem Now.pad {cx : Cx} {σ : Store} (h : Now E cx σ) (n : Nat) : Now E cx (σ ++ List.replicate n none) := by
  have hsome : ∀ (b : Nat) (blk : Blk), (σ ++ List.replicate n none)[b]? = some (some blk) → σ[b]? = some (some blk) := fun b blk hb => by
    rcases Nat.lt_or_ge b σ.length with h1 | h1
    · rw [List.getElem?_append_left h1] at hb; exact hb
    · rw [List.getElem?_append_right h1, List.getElem?_replicate] at hb
      split at hb <;> simp at hb
  refine ⟨by rw [List.length_append]; have := h.top; omega, fun b hb => by rw [List.length_append]; have := h.A b hb; omega, h.IF, h.imm, fun b m hb => ?_, fun b blk hb => h.live b blk (hsome b blk hb), h.inj, h.base⟩
  obtain ⟨blk, h1, h2⟩ := h.dom b m hb
  exact ⟨blk, by rw [List.getElem?_append_left (getElem?_lt h1)]; exact h1, h2⟩

theorem Now.world {cx : Cx} {σ : Store} (h : Now E cx σ) {w : World} (hw : w.heap = cx.w.heap) (ho : w.os = cx.w.os) (ht : w.tape = cx.w.tape) (hp : w.output = cx.w.output) : Now E { cx with w := w } σ ∧ Step cx { cx with w := w } := by
  have he : Ext cx { cx with w := w } := ⟨fun _ h => h, fun _ _ => by simp only [hw], fun _ h => h, fun b _ m h => ⟨m, h, Nat.le_refl _, fun _ => rfl⟩⟩
  refine ⟨⟨h.top, h.A, h.IF, fun k hk => by simp only [hw]; exact h.imm k hk, fun b m hb => ?_, h.live, h.inj, h.base⟩, ⟨he, fun _ h => h, fun _ _ => by simp only [hw], fun _ h => .inl h, fun b m h => .inr ⟨b, m, h, rfl⟩, rfl, fun _ h => .inl h, by simp only [hw]; exact Nat.le_refl _, ho, ht, hp⟩⟩
  obtain ⟨blk, h1, h2, h3, h4⟩ := h.dom b m hb
  exact ⟨blk, h1, by simp only [hw]; exact h2, h3, h4.ext he (by simp only [hw])⟩

/-- A region whose order is drawn. -/
theorem T_draw (O : E.OK) (hmix : E.P.follows .mixedOrders = true) {id : Nat} {ops : Array Oper} (tab : Tab) (m : Nat) {fr : Fr} {σ : Store} (hchk : chkDraw ops tab m N = true)
    (h : RD E ops tab σ.length (RF E ops Q (Q .normal) (ops.toList.drop m)) 0 (ops.toList.take m) fr (σ ++ List.replicate ops.size none) []) : T E N z (.region id ops true) Q fr σ := fun cx a ht hn hfr => by
  have c := Chk.of hchk
  have hσ : (σ ++ List.replicate ops.size none : Store).length = σ.length + ops.size := by simp
  obtain ⟨rs, h1, h2, h3⟩ := RD_trace (N := N) O (tab := tab) (ops := ops) (base := σ.length) (fun i hi => c.slot (o := ops[i]) (by simp [hi])) hσ (ops.toList.take m) [] [] ⟨fun i hi => by simp at hi, fun i j _ hi => by simp at hi⟩
    (fun k o hk => by
      rw [List.getElem?_take] at hk
      split at hk
      · simpa using hk
      · simp at hk) (fun j hj => by simp at hj) h
  have hlen : rs.length = m := by
    rw [h1, List.length_take]; have := c.le; simp; omega
  rw [hlen] at h3
  have h4 := ROps_of_RF (N := N) (z := z) O _ _ _ (fun o ho t hto => by
    obtain ⟨i, hi⟩ := List.getElem?_of_mem (List.mem_of_mem_drop ho)
    exact c.dst (i := i) (o := o) (by simpa using hi) t hto) h3
  have hw := hn.world (w := { cx.w with drawn := cx.w.drawn + 1 }) rfl rfl rfl rfl
  have hL : ∀ j, LS (Array.replicate ops.size false) j = false := fun j => by
    unfold LS
    rw [Array.getD_eq_getD_getElem?, Array.getElem?_replicate]
    split <;> rfl
  have hstM : ∀ n, stM rs (LS (Array.replicate ops.size false)) (σ ++ List.replicate ops.size none) n = σ ++ List.replicate ops.size none := fun n => by
    induction n with
    | zero => rfl
    | succ n ih => simp only [stM, hL n]; simpa using ih
  have hfrM : ∀ n, frM ops rs (LS (Array.replicate ops.size false)) fr n = fr := fun n => by
    induction n with
    | zero => rfl
    | succ n ih => simp only [frM, hL n]; simpa using ih
  refine wp_region_any hmix (any_free (cx0 := cx) c h2 hlen hσ h4 ops.size (Array.replicate ops.size false) { cx with w := { cx.w with drawn := cx.w.drawn + 1 } } a (by simp) (fun j hj => by rw [hL] at hj; simp at hj) ?_ ht hn.top ?_ ?_ (fun b hb => .inl (hn.A b hb)) (hw.2.ofBelow ht) rfl)
  · have := List.countP_le_length (p := fun j => !LS (Array.replicate ops.size false) j) (l := List.range ops.size)
    simpa [lefts] using this
  · rw [hstM]; exact hw.1.pad _
  · rw [hfrM]; exact hfr.step hw.2

end
end Go.Proofs.Ythllcknfidnfaaa
