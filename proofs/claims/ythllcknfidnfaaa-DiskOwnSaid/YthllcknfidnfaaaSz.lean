/- A call over a store of its own. -/
import Derived.Test.YthllcknfidnfaaaSy
set_option linter.unusedVariables false
set_option linter.unusedSimpArgs false
namespace Go.Proofs.Ythllcknfidnfaaa
open Go

def nth (ids : List Nat) (i : Nat) : Nat := ids.getD i 0
/-- Blocks set, one by one. -/
def putAll (σ : Store) : List Nat → Store → Store
  | b :: bs, x :: xs => putAll (σ.set b x) bs xs
  | _, _ => σ
/-- A store without its first blocks. -/
def hide (k : Nat) (σ : Store) : Store := List.replicate k none ++ σ.drop k

def renStore (r : Nat → Nat) (σ : Store) : Store := σ.map fun x => x.map (renBlk r)
def allStore (p : Nat → Bool) (σ : Store) : Bool := σ.all fun x => match x with | some b => allBlk p b | none => true

/-- What a call over a store of its own must come to. -/
def ownRe (ids : List Nat) (σ : Store) (R : Re → Store → Prop) (re : Re) (σ' : Store) : Prop :=
  allStore (fun b => decide (b < ids.length)) (σ'.take ids.length) = true ∧
  match re with
  | .ret r => (match frz (hide ids.length σ') 6 r with | some y => R (.ret y) (putAll σ ids (renStore (nth ids) (σ'.take ids.length))) | none => False)
  | .pan r => (match frz (hide ids.length σ') 6 r with | some y => R (.pan y) (putAll σ ids (renStore (nth ids) (σ'.take ids.length))) | none => False)

section
variable {E : Env}

theorem putAll_len : ∀ (ids : List Nat) (bs σ : Store), (putAll σ ids bs).length = σ.length
  | [], bs, σ => by simp [putAll]
  | b :: ids, [], σ => by simp [putAll]
  | b :: ids, x :: bs, σ => by simp [putAll, putAll_len ids bs]
theorem putAll_other {c : Nat} : ∀ (ids : List Nat) (bs σ : Store), c ∉ ids → (putAll σ ids bs)[c]? = σ[c]?
  | [], bs, σ, _ => by simp [putAll]
  | b :: ids, [], σ, _ => by simp [putAll]
  | b :: ids, x :: bs, σ, h => by
    simp only [List.mem_cons, not_or] at h
    simp only [putAll]
    rw [putAll_other ids bs _ h.2, List.getElem?_set_ne (Ne.symm h.1)]
theorem putAll_at : ∀ (ids : List Nat) (bs σ : Store) (i : Nat), ids.Nodup → (∀ b ∈ ids, b < σ.length) → i < ids.length → i < bs.length → (putAll σ ids bs)[nth ids i]? = bs[i]?
  | [], bs, σ, i, _, _, h, _ => by simp at h
  | b :: ids, [], σ, i, _, _, _, h => by simp at h
  | b :: ids, x :: bs, σ, i, hn, hl, hi, hb => by
    simp only [List.nodup_cons] at hn
    cases i with
    | zero =>
      simp only [nth, List.getD_cons_zero, putAll, List.getElem?_cons_zero]
      rw [putAll_other ids bs _ hn.1, List.getElem?_set_self (hl b (by simp))]
    | succ i =>
      have := putAll_at ids bs (σ.set b x) i hn.2 (fun c hc => by rw [List.length_set]; exact hl c (by simp [hc])) (by simpa using hi) (by simpa using hb)
      simpa [nth, putAll] using this

theorem nth_mem {ids : List Nat} {i : Nat} (h : i < ids.length) : nth ids i ∈ ids := by simp [nth, List.getElem?_eq_getElem h]
theorem idx_nth {ids : List Nat} (hn : ids.Nodup) {i : Nat} (h : i < ids.length) : ids.idxOf (nth ids i) = i := by
  simp only [nth, List.getD_eq_getElem?_getD, List.getElem?_eq_getElem h, Option.getD_some]
  exact hn.idxOf_getElem i h
theorem nth_idx {ids : List Nat} {b : Nat} (h : b ∈ ids) : nth ids (ids.idxOf b) = b := by
  have := List.idxOf_lt_length_iff.2 h
  simp [nth, List.getElem?_eq_getElem this]

theorem renBlk_renBlk {r s : Nat → Nat} {p : Nat → Bool} (hp : ∀ b, p b = true → s (r b) = b) (x : Blk) (h : allBlk p x = true) : renBlk s (renBlk r x) = x := by
  cases x with
  | cells ty g xs => simp only [renBlk, renL_renL hp xs h]
  | mp K es =>
    simp only [renBlk, List.map_map, Blk.mp.injEq, true_and]
    have h : (es.all fun q => allB p q.2) = true := h
    rw [List.all_eq_true] at h
    conv => rhs; rw [← List.map_id es]
    exact List.map_congr_left fun q hq => by simp [ren_ren hp q.2 (h q hq)]
theorem allBlk_ren {r : Nat → Nat} {p q : Nat → Bool} (hp : ∀ b, p b = true → q (r b) = true) (x : Blk) (h : allBlk p x = true) : allBlk q (renBlk r x) = true := by
  cases x with
  | cells ty g xs => exact allL_renL hp xs h
  | mp K es =>
    have h : (es.all fun q => allB p q.2) = true := h
    show (((es.map fun p => (p.1, ren r p.2))).all fun q' => allB q q'.2) = true
    rw [List.all_eq_true] at h ⊢
    intro y hy
    obtain ⟨z, hz, rfl⟩ := List.mem_map.1 hy
    exact allB_ren hp z.2 (h z hz)

/-- A call over a store of its own: the blocks that it reaches, numbered anew. -/
theorem C_own (O : E.OK) {f : FuncId} {args : List PV} {σ0 σ : Store} {R : Re → Store → Prop} (ids : List Nat) (hnd : ids.Nodup) (hlen : σ0.length = ids.length) (hargs : allL (fun b => decide (b < ids.length)) args = true)
    (hall : allStore (fun b => decide (b < ids.length)) σ0 = true) (hat : ∀ i, i < ids.length → σ[nth ids i]? = (renStore (nth ids) σ0)[i]?) (h : C E f args σ0 (ownRe ids σ R)) : C E f (renL (nth ids) args) σ R := fun cx vs hn hv => by
  have hinv : ∀ b, decide (b < ids.length) = true → ids.idxOf (nth ids b) = b := fun b hb => idx_nth hnd (by simpa using hb)
  have hmem : ∀ b, decide (b < ids.length) = true → (fun b => decide (b ∈ ids)) (nth ids b) = true := fun b hb => by simpa using nth_mem (by simpa using hb)
  have hblk0 : ∀ (i : Nat) (blk : Blk), σ0[i]? = some (some blk) → allBlk (fun b => decide (b < ids.length)) blk = true := fun i blk hi => by
    have := List.all_eq_true.1 hall _ (List.mem_of_getElem? hi); exact this
  have hblkσ : ∀ (i : Nat) (blk : Blk), σ0[i]? = some (some blk) → σ[nth ids i]? = some (some (renBlk (nth ids) blk)) := fun i blk hi => by
    have hlt : i < ids.length := by rw [← hlen]; exact getElem?_lt hi
    rw [hat i hlt]; simp [renStore, hi]
  let cx0 : Cx := { I := cx.I, F := fun j => cx.F j ∨ ∃ b m, cx.mu b = some m ∧ b ∉ ids ∧ m.blk = j, w := cx.w, mu := fun i => if i < ids.length then cx.mu (nth ids i) else none, A := fun i => i < ids.length ∧ cx.A (nth ids i), top := ids.length }
  have hmu0 : ∀ i m, cx0.mu i = some m → i < ids.length ∧ cx.mu (nth ids i) = some m := fun i m hm => by
    simp only [cx0] at hm
    split at hm
    · rename_i hi; exact ⟨hi, hm⟩
    · simp at hm
  have hmov : Moves cx cx0 (fun b => ids.idxOf b) (fun b => decide (b ∈ ids)) := ⟨fun _ h => h, fun _ _ => rfl, fun b hb hA => by
      have hb : b ∈ ids := by simpa using hb
      exact ⟨List.idxOf_lt_length_iff.2 hb, by rw [nth_idx hb]; exact hA⟩, fun b hb hA m hm => by
      have hb : b ∈ ids := by simpa using hb
      have := (hmu0 _ m hm).2; rw [nth_idx hb] at this; exact this⟩
  have hn0 : Now E cx0 σ0 := by
    refine ⟨by simp [cx0, hlen], fun b hb => by rw [hlen]; exact hb.1, fun k h => .inl (hn.IF k h), fun k h => ?_, fun i m hm => ?_, fun i blk hi => ?_, fun i i' m m' hi hi' he => ?_, fun i m hi => hn.base _ m (hmu0 i m hi).2⟩
    · rcases h with h | ⟨b, m, h1, _, h2⟩
      · exact hn.imm k h
      · obtain ⟨_, _, h3, _⟩ := hn.dom b m h1; exact h2 ▸ h3
    · obtain ⟨hi, hm'⟩ := hmu0 i m hm
      obtain ⟨blk, k1, k2, k3, k4⟩ := hn.dom _ m hm'
      have e0 := hat i hi
      rw [k1] at e0
      obtain ⟨ob, hob⟩ : ∃ ob, σ0[i]? = some ob := ⟨σ0[i]'(by rw [hlen]; exact hi), by rw [List.getElem?_eq_getElem]⟩
      simp only [renStore, List.getElem?_map, hob, Option.map_some, Option.some.injEq] at e0
      cases ob with
      | none => simp at e0
      | some blk0 =>
        simp only [Option.map_some, Option.some.injEq] at e0; subst e0
        refine ⟨blk0, hob, k2, ?_, ?_⟩
        · rintro (h | ⟨b, m2, h1, h2, h3⟩)
          · exact k3 h
          · exact h2 (hn.inj _ _ _ _ h1 hm' h3 ▸ nth_mem hi)
        · have := k4.ren (c' := cx0) (allBlk_ren hmem blk0 (hblk0 i blk0 hob)) hmov rfl
          rw [renBlk_renBlk hinv blk0 (hblk0 i blk0 hob)] at this
          exact this
    · have hi' := hblkσ i blk hi
      have hlt : i < ids.length := by rw [← hlen]; exact getElem?_lt hi
      obtain ⟨k1, m, k2⟩ := hn.live _ _ hi'
      exact ⟨⟨hlt, k1⟩, m, by simp only [cx0, if_pos hlt]; exact k2⟩
    · obtain ⟨a1, a2⟩ := hmu0 i m hi
      obtain ⟨b1, b2⟩ := hmu0 i' m' hi'
      have := hn.inj _ _ _ _ a2 b2 he
      rw [← idx_nth hnd a1, ← idx_nth hnd b1, this]
  have hv0 : VL E cx0 args vs.toList := by
    have := hv.ren (allL_renL hmem args hargs) hmov
    rw [renL_renL hinv args hargs] at this; exact this
  refine (h cx0 vs hn0 hv0).mono ?_
  rintro e w' ⟨re, σ1, cx1, rfl, h2, h3, h4, h5⟩
  have hk : ids.length ≤ σ1.length := by
    have h1 := h4.top
    have h2 : cx1.top = ids.length := h5.top
    omega
  have hsz : cx.w.heap.size ≤ cx1.w.heap.size := h5.size
  let cx2 : Cx := { cx1 with F := fun j => cx1.F j ∨ ∃ b m, cx1.mu b = some m ∧ m.blk = j ∧ b < ids.length, mu := fun b => if b < ids.length then none else cx1.mu b }
  have hmu2 : ∀ b m, cx2.mu b = some m → ids.length ≤ b ∧ cx1.mu b = some m := fun b m hm => by
    simp only [cx2] at hm
    split at hm
    · simp at hm
    · rename_i hb; exact ⟨by omega, hm⟩
  have hhide : ∀ (b : Nat), (hide ids.length σ1)[b]? = if b < ids.length then some none else σ1[b]? := fun b => by
    unfold hide
    split
    · rename_i hb
      rw [List.getElem?_append_left (by simpa using hb), List.getElem?_replicate, if_pos hb]
    · rename_i hb
      rw [List.getElem?_append_right (by simp; omega), List.getElem?_drop]
      congr 1; simp; omega
  have hx12 : Ext cx1 cx2 := ⟨fun _ h => h, fun _ _ => rfl, fun _ h => h, fun b _ m h => ⟨m, (hmu2 b m h).2, Nat.le_refl _, fun _ => rfl⟩⟩
  have hn2 : Now E cx2 (hide ids.length σ1) := by
    have hl : (hide ids.length σ1).length = σ1.length := by simp [hide]; omega
    refine ⟨by rw [hl]; exact h4.top, fun b hb => by rw [hl]; exact h4.A b hb, fun k h => .inl (h4.IF k h), fun k h => ?_, fun b m hm => ?_, fun b blk hb => ?_, fun b b' m m' hb hb' he => h4.inj b b' m m' (hmu2 b m hb).2 (hmu2 b' m' hb').2 he, fun b m hb => h4.base b m (hmu2 b m hb).2⟩
    · rcases h with h | ⟨b, m, h1, h2, _⟩
      · exact h4.imm k h
      · obtain ⟨_, _, h3, _⟩ := h4.dom b m h1; exact h2 ▸ h3
    · obtain ⟨hge, hm1⟩ := hmu2 b m hm
      obtain ⟨blk, k1, k2, k3, k4⟩ := h4.dom b m hm1
      refine ⟨blk, by rw [hhide, if_neg (by omega)]; exact k1, k2, ?_, k4.ext hx12 rfl⟩
      rintro (h | ⟨b', m', h1, h2, h3⟩)
      · exact k3 h
      · have := h4.inj _ _ _ _ h1 hm1 h2; omega
    · rw [hhide] at hb
      split at hb
      · simp at hb
      · rename_i hlt
        obtain ⟨k1, m, k2⟩ := h4.live b blk hb
        exact ⟨k1, m, by simp only [cx2, if_neg hlt]; exact k2⟩
  let cx' : Cx := { I := cx2.frozen.I, F := fun j => cx.F j ∨ cx2.frozen.I j, w := cx1.w, mu := fun b => if b ∈ ids then cx1.mu (ids.idxOf b) else cx.mu b, A := cx.A, top := cx.top }
  have hfz : ∀ j, cx2.frozen.I j → cx1.I j ∨ ∃ b m, ids.length ≤ b ∧ cx1.mu b = some m ∧ m.blk = j := fun j hj => by
    rcases hj with h | ⟨b, m, h1, h2⟩
    · exact .inl h
    · exact .inr ⟨b, m, (hmu2 b m h1).1, (hmu2 b m h1).2, h2⟩
  have hmu' : ∀ b m, cx'.mu b = some m → (b ∈ ids ∧ cx1.mu (ids.idxOf b) = some m) ∨ (b ∉ ids ∧ cx.mu b = some m) := fun b m hm => by
    simp only [cx'] at hm
    split at hm
    · rename_i h; exact .inl ⟨h, hm⟩
    · rename_i h; exact .inr ⟨h, hm⟩
  have hFin : ∀ j, cx.F j → cx1.F j := fun j hj => h5.F j (.inl hj)
  -- the blocks that are not reached stay
  have hout : ∀ b m, b ∉ ids → cx.mu b = some m → cx1.F m.blk ∧ cx1.w.heap[m.blk]? = cx.w.heap[m.blk]? ∧ ¬ cx'.F m.blk := fun b m hb hm => by
    have hF0 : cx0.F m.blk := .inr ⟨b, m, hm, hb, rfl⟩
    obtain ⟨_, _, hlt, hF, _⟩ := hn.dom b m hm
    refine ⟨h5.F _ hF0, h5.keeps _ hF0, ?_⟩
    rintro (h | h)
    · exact hF h
    · rcases hfz _ h with h | ⟨b', m', hge, h1, h2⟩
      · exact absurd (h5.F _ hF0) (fun _ => by
          rcases h5.grow _ h with h | h | ⟨x, mx, hx, he⟩
          · exact hF (hn.IF _ h)
          · exact absurd hlt (Nat.not_lt.2 h)
          · obtain ⟨a1, a2⟩ := hmu0 x mx hx
            exact hb (hn.inj _ _ _ _ a2 hm he ▸ nth_mem a1))
      · rcases h5.muold b' m' h1 with h | ⟨x, mx, hx, he⟩
        · rw [h2] at h; exact absurd hlt (Nat.not_lt.2 h)
        · obtain ⟨a1, a2⟩ := hmu0 x mx hx
          exact hb (hn.inj _ _ _ _ a2 hm (he.trans h2) ▸ nth_mem a1)
  have hin : ∀ i m, i < ids.length → cx1.mu i = some m → ¬ cx'.F m.blk := fun i m hi hm => by
    obtain ⟨_, _, _, hF, _⟩ := h4.dom i m hm
    rintro (h | h)
    · exact hF (hFin _ h)
    · rcases hfz _ h with h | ⟨b', m', hge, h1, h2⟩
      · exact hF (h4.IF _ h)
      · have := h4.inj _ _ _ _ h1 hm h2; omega
  have hext : Ext cx cx' := ⟨fun k hk => .inl (h5.ext.I k hk), fun k hk => h5.keeps k (.inl (hn.IF k hk)), fun b h => h, fun b hb m hm => by
    rcases hmu' b m hm with ⟨h1, h2⟩ | ⟨h1, h2⟩
    · obtain ⟨m0, g1, g2⟩ := h5.ext.mu (ids.idxOf b) ⟨List.idxOf_lt_length_iff.2 h1, by rw [nth_idx h1]; exact hb⟩ m h2
      have := (hmu0 _ _ g1).2
      rw [nth_idx h1] at this
      exact ⟨m0, this, g2⟩
    · exact ⟨m, h2, Nat.le_refl _, fun _ => rfl⟩⟩
  have hmov' : Moves cx1 cx' (nth ids) (fun b => decide (b < ids.length)) := ⟨fun k h => .inl h, fun _ _ => rfl, fun b hb hA => by
      have hb : b < ids.length := by simpa using hb
      rcases h5.new b hA with h | h
      · exact h.2
      · have : ids.length ≤ b := h
        omega, fun b hb hA m hm => by
      have hb : b < ids.length := by simpa using hb
      rcases hmu' _ m hm with ⟨h1, h2⟩ | ⟨h1, h2⟩
      · rw [idx_nth hnd hb] at h2; exact h2
      · exact absurd (nth_mem hb) h1⟩
  have hRe := h2.1
  have hblk1 : ∀ (i : Nat) (blk : Blk), i < ids.length → σ1[i]? = some (some blk) → allBlk (fun b => decide (b < ids.length)) blk = true := fun i blk hi h => by
    have hm : some blk ∈ σ1.take ids.length := List.mem_of_getElem? (i := i) (by rw [List.getElem?_take, if_pos hi]; exact h)
    exact List.all_eq_true.1 hRe _ hm
  let σ' := putAll σ ids (renStore (nth ids) (σ1.take ids.length))
  have hidlt : ∀ b ∈ ids, b < σ.length := fun b hb => by
    have hi := List.idxOf_lt_length_iff.2 hb
    have := hat _ hi
    rw [nth_idx hb] at this
    have hlt : ids.idxOf b < (renStore (nth ids) σ0).length := by simp [renStore, hlen]; exact hi
    rw [List.getElem?_eq_getElem hlt] at this
    exact getElem?_lt this
  have hat' : ∀ i, i < ids.length → σ'[nth ids i]? = (σ1[i]?).map (fun x => x.map (renBlk (nth ids))) := fun i hi => by
    have hl : i < (renStore (nth ids) (σ1.take ids.length)).length := by simp [renStore]; omega
    rw [show σ' = putAll σ ids _ from rfl, putAll_at ids _ σ i hnd hidlt hi hl]
    simp only [renStore, List.getElem?_map, List.getElem?_take, if_pos hi]
  have hot' : ∀ b, b ∉ ids → σ'[b]? = σ[b]? := fun b hb => putAll_other ids _ σ hb
  have hn' : Now E cx' σ' := by
    refine ⟨by rw [show σ'.length = σ.length from putAll_len _ _ _]; exact hn.top, fun b hb => by rw [show σ'.length = σ.length from putAll_len _ _ _]; exact hn.A b hb, fun k h => .inr h, fun k h => ?_, fun b m hm => ?_, fun b blk hb => ?_, fun b b' m m' hb hb' he => ?_, fun b m hb => by
      rcases hmu' b m hb with ⟨_, h2⟩ | ⟨_, h2⟩
      · exact h4.base _ m h2
      · exact hn.base _ m h2⟩
    · rcases h with h | h
      · exact Nat.lt_of_lt_of_le (hn.imm k h) hsz
      · rcases hfz k h with h | ⟨b', m', _, h1, h2⟩
        · exact h4.immI k h
        · obtain ⟨_, _, h3, _⟩ := h4.dom b' m' h1; exact h2 ▸ h3
    · rcases hmu' b m hm with ⟨h1, h2⟩ | ⟨h1, h2⟩
      · have hi := List.idxOf_lt_length_iff.2 h1
        obtain ⟨blk, k1, k2, k3, k4⟩ := h4.dom _ m h2
        refine ⟨renBlk (nth ids) blk, ?_, k2, hin _ m hi h2, k4.ren (hblk1 _ blk hi k1) hmov' rfl⟩
        have := hat' _ hi
        rw [nth_idx h1, k1] at this
        exact this
      · obtain ⟨blk, k1, k2, k3, k4⟩ := hn.dom b m h2
        obtain ⟨g1, g2, g3⟩ := hout b m h1 h2
        exact ⟨blk, (hot' b h1).trans k1, Nat.lt_of_lt_of_le k2 hsz, g3, k4.ext hext g2⟩
    · by_cases hb' : b ∈ ids
      · have hi := List.idxOf_lt_length_iff.2 hb'
        have e0 := hat' _ hi
        rw [nth_idx hb', hb] at e0
        cases h1 : σ1[ids.idxOf b]? with
        | none => rw [h1] at e0; simp at e0
        | some ob =>
          cases ob with
          | none => rw [h1] at e0; simp at e0
          | some blk1 =>
            obtain ⟨k1, m, k2⟩ := h4.live _ blk1 h1
            have hA := h5.new _ k1
            refine ⟨?_, m, by simp only [cx', if_pos hb']; exact k2⟩
            rcases hA with hA | hA
            · have := hA.2; rw [nth_idx hb'] at this; exact this
            · have : ids.length ≤ ids.idxOf b := hA
              omega
      · rw [hot' b hb'] at hb
        obtain ⟨k1, m, k2⟩ := hn.live b blk hb
        exact ⟨k1, m, by simp only [cx', if_neg hb']; exact k2⟩
    · rcases hmu' b m hb with ⟨h1, h2⟩ | ⟨h1, h2⟩ <;> rcases hmu' b' m' hb' with ⟨g1, g2⟩ | ⟨g1, g2⟩
      · have := h4.inj _ _ _ _ h2 g2 he
        rw [← nth_idx h1, ← nth_idx g1, this]
      · obtain ⟨_, _, _, hF, _⟩ := h4.dom _ m h2
        exact absurd ((hout b' m' g1 g2).1) (he ▸ hF)
      · obtain ⟨_, _, _, hF, _⟩ := h4.dom _ m' g2
        exact absurd ((hout b m h1 h2).1) (he ▸ hF)
      · exact hn.inj _ _ _ _ h2 g2 he
  have hs' : Step cx cx' := by
    refine ⟨hext, fun k h => .inl h, fun k hk => h5.keeps k (.inl hk), fun k hk => ?_, fun b m hm => ?_, rfl, fun _ h => .inl h, h5.size, h5.os, h5.tape, h5.output⟩
    · rcases hfz k hk with h | ⟨b', m', hge, h1, h2⟩
      · rcases h5.grow k h with h | h | ⟨x, mx, hx, he⟩
        · exact .inl h
        · exact .inr (.inl h)
        · exact .inr (.inr ⟨_, mx, (hmu0 x mx hx).2, he⟩)
      · rcases h5.muold b' m' h1 with h | ⟨x, mx, hx, he⟩
        · exact .inr (.inl (h2 ▸ h))
        · exact .inr (.inr ⟨_, mx, (hmu0 x mx hx).2, he.trans h2⟩)
    · rcases hmu' b m hm with ⟨h1, h2⟩ | ⟨h1, h2⟩
      · rcases h5.muold _ m h2 with h | ⟨x, mx, hx, he⟩
        · exact .inl h
        · exact .inr ⟨_, mx, (hmu0 x mx hx).2, he⟩
      · exact .inr ⟨b, m, h2, rfl⟩
  have hx1 : Ext cx2.frozen cx' := ⟨fun k h => h, fun _ _ => rfl, fun _ h => h.elim, fun _ h => h.elim⟩
  have h2' := h2.2
  cases re with
  | ret r =>
    cases e <;> simp only [ReOK] at h3
    simp only at h2'
    split at h2'
    · rename_i y hy
      have hr : V E cx2 r _ := VL.ext h3 hx12
      exact ⟨.ret y, σ', cx', rfl, h2', (V.frz O hn2 hr hy).ext hx1, hn', hs'⟩
    · exact h2'.elim
  | pan r =>
    cases e <;> simp only [ReOK] at h3
    obtain ⟨v, hch, h3⟩ := h3
    simp only at h2'
    split at h2'
    · rename_i y hy
      have hr : V E cx2 r v := VL.ext h3 hx12
      exact ⟨.pan y, σ', cx', rfl, h2', ⟨v, hch, (V.frz O hn2 hr hy).ext hx1⟩, hn', hs'⟩
    · exact h2'.elim

end
end Go.Proofs.Ythllcknfidnfaaa
