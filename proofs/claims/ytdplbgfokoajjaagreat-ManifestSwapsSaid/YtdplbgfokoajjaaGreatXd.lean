/- A call over a store of its own. -/
import Derived.Test.YtdplbgfokoajjaaGreatXc
import Derived.Below
import Derived.Maps.RangeWalk
import Derived.Sort.MapsRangeIn
import Derived.RangeFuncLeaves
section
set_option maxRecDepth 20000
set_option linter.unusedVariables false
set_option linter.unusedSimpArgs false
namespace Go.Proofs.YtdplbgfokoajjaaGreat
open Go
def nth (ids : List Nat) (i : Nat) : Nat := ids.getD i 0
def putAll (σ : Store) : List Nat → Store → Store
 | b :: bs, x :: xs => putAll (σ.set b x) bs xs
 | _, _ => σ
def hide (k : Nat) (σ : Store) : Store := List.replicate k none ++ σ.drop k
def renStore (r : Nat → Nat) (σ : Store) : Store := σ.map fun x => x.map (renBlk r)
def allStore (p : Nat → Bool) (σ : Store) : Bool := σ.all fun x => match x with | some b => allBlk p b | none => true
def ownRe (ids : List Nat) (σ : Store) (R : Re → Store → Prop) (re : Re) (σ' : Store) : Prop :=
 allStore (fun b => decide (b < ids.length)) (σ'.take ids.length) = true ∧
 match re with
 | .ret r => (match frz (hide ids.length σ') 6 r with | some y => R (.ret y) (putAll σ ids (renStore (nth ids) (σ'.take ids.length))) | none => False)
 | .pan r => (match frz (hide ids.length σ') 6 r with | some y => R (.pan y) (putAll σ ids (renStore (nth ids) (σ'.take ids.length))) | none => False)
section
variable {E : Env}
theorem putAll_len : ∀ (ids : List Nat) (bs σ : Store), (putAll σ ids bs).length = σ.length
 | [], bs, σ => by simp [putAll]
 | b :: ids, [], σ => by simp [putAll]
 | b :: ids, x :: bs, σ => by simp [putAll, putAll_len ids bs]
theorem putAll_other {c : Nat} : ∀ (ids : List Nat) (bs σ : Store), c ∉ ids → (putAll σ ids bs)[c]? = σ[c]?
 | [], bs, σ, _ => by simp [putAll]
 | b :: ids, [], σ, _ => by simp [putAll]
 | b :: ids, x :: bs, σ, h => by
  simp only [List.mem_cons, not_or] at h
  simp only [putAll]
  rw [putAll_other ids bs _ h.2, List.getElem?_set_ne (Ne.symm h.1)]
theorem putAll_at : ∀ (ids : List Nat) (bs σ : Store) (i : Nat), ids.Nodup → (∀ b ∈ ids, b < σ.length) → i < ids.length → i < bs.length → (putAll σ ids bs)[nth ids i]? = bs[i]?
 | [], bs, σ, i, _, _, h, _ => by simp at h
 | b :: ids, [], σ, i, _, _, _, h => by simp at h
 | b :: ids, x :: bs, σ, i, hn, hl, hi, hb => by
  simp only [List.nodup_cons] at hn
  cases i with
  | zero =>
   simp only [nth, List.getD_cons_zero, putAll, List.getElem?_cons_zero]
   rw [putAll_other ids bs _ hn.1, List.getElem?_set_self (hl b (by simp))]
  | succ i =>
   have := putAll_at ids bs (σ.set b x) i hn.2 (fun c hc => by rw [List.length_set]; exact hl c (by simp [hc])) (by simpa using hi) (by simpa using hb)
   simpa [nth, putAll] using this
theorem nth_mem {ids : List Nat} {i : Nat} (h : i < ids.length) : nth ids i ∈ ids := by simp [nth, List.getElem?_eq_getElem h]
theorem idx_nth {ids : List Nat} (hn : ids.Nodup) {i : Nat} (h : i < ids.length) : ids.idxOf (nth ids i) = i := by
 simp only [nth, List.getD_eq_getElem?_getD, List.getElem?_eq_getElem h, Option.getD_some]
 exact hn.idxOf_getElem i h
theorem nth_idx {ids : List Nat} {b : Nat} (h : b ∈ ids) : nth ids (ids.idxOf b) = b := by
 have := List.idxOf_lt_length_iff.2 h
 simp [nth, List.getElem?_eq_getElem this]
theorem renBlk_renBlk {r s : Nat → Nat} {p : Nat → Bool} (hp : ∀ b, p b = true → s (r b) = b) (x : Blk) (h : allBlk p x = true) : renBlk s (renBlk r x) = x := by
 cases x with
 | cells ty g xs => simp only [renBlk, renL_renL hp xs h]
 | mp K es =>
  simp only [renBlk, List.map_map, Blk.mp.injEq, true_and]
  have h : (es.all fun q => allB p q.2) = true := h
  rw [List.all_eq_true] at h
  conv => rhs; rw [← List.map_id es]
  exact List.map_congr_left fun q hq => by simp [ren_ren hp q.2 (h q hq)]
 | loop l st pend n fr ps as bd =>
  simp only [renBlk, List.map_map, Blk.loop.injEq, true_and, and_true]
  have h : (fr.all fun q => allB p q.2) = true := h
  rw [List.all_eq_true] at h
  conv => rhs; rw [← List.map_id fr]
  exact List.map_congr_left fun q hq => by simp [ren_ren hp q.2 (h q hq)]
theorem allBlk_ren {r : Nat → Nat} {p q : Nat → Bool} (hp : ∀ b, p b = true → q (r b) = true) (x : Blk) (h : allBlk p x = true) : allBlk q (renBlk r x) = true := by
 cases x with
 | cells ty g xs => exact allL_renL hp xs h
 | mp K es =>
  have h : (es.all fun q => allB p q.2) = true := h
  show (((es.map fun p => (p.1, ren r p.2))).all fun q' => allB q q'.2) = true
  rw [List.all_eq_true] at h ⊢
  intro y hy
  obtain ⟨z, hz, rfl⟩ := List.mem_map.1 hy
  exact allB_ren hp z.2 (h z hz)
 | loop l st pend n fr ps as bd =>
  have h : (fr.all fun q => allB p q.2) = true := h
  show (((fr.map fun p => (p.1, ren r p.2))).all fun q' => allB q q'.2) = true
  rw [List.all_eq_true] at h ⊢
  intro y hy
  obtain ⟨z, hz, rfl⟩ := List.mem_map.1 hy
  exact allB_ren hp z.2 (h z hz)
theorem C_own (O : E.OK) {f : FuncId} {args : List PV} {σ0 σ : Store} {R : Re → Store → Prop} (ids : List Nat) (hnd : ids.Nodup) (hlen : σ0.length = ids.length) (hargs : allL (fun b => decide (b < ids.length)) args = true)
  (hall : allStore (fun b => decide (b < ids.length)) σ0 = true) (hat : ∀ i, i < ids.length → σ[nth ids i]? = (renStore (nth ids) σ0)[i]?) (h : C E f args σ0 (ownRe ids σ R)) : C E f (renL (nth ids) args) σ R := fun cx vs hn hv => by
 have hinv : ∀ b, decide (b < ids.length) = true → ids.idxOf (nth ids b) = b := fun b hb => idx_nth hnd (by simpa using hb)
 have hmem : ∀ b, decide (b < ids.length) = true → (fun b => decide (b ∈ ids)) (nth ids b) = true := fun b hb => by simpa using nth_mem (by simpa using hb)
 have hblk0 : ∀ (i : Nat) (blk : Blk), σ0[i]? = some (some blk) → allBlk (fun b => decide (b < ids.length)) blk = true := fun i blk hi => by
  have := List.all_eq_true.1 hall _ (List.mem_of_getElem? hi); exact this
 have hblkσ : ∀ (i : Nat) (blk : Blk), σ0[i]? = some (some blk) → σ[nth ids i]? = some (some (renBlk (nth ids) blk)) := fun i blk hi => by
  have hlt : i < ids.length := by rw [← hlen]; exact getElem?_lt hi
  rw [hat i hlt]; simp [renStore, hi]
 let cx0 : Cx := { I := cx.I, F := fun j => cx.F j ∨ ∃ b m, cx.mu b = some m ∧ b ∉ ids ∧ m.blk = j, w := cx.w, mu := fun i => if i < ids.length then cx.mu (nth ids i) else none, A := fun i => i < ids.length ∧ cx.A (nth ids i), top := ids.length }
 have hmu0 : ∀ i m, cx0.mu i = some m → i < ids.length ∧ cx.mu (nth ids i) = some m := fun i m hm => by
  simp only [cx0] at hm
  split at hm
  ·rename_i hi; exact ⟨hi, hm⟩
  ·simp at hm
 have hmov : Moves cx cx0 (fun b => ids.idxOf b) (fun b => decide (b ∈ ids)) := ⟨fun _ h => h, fun _ _ => rfl, fun b hb hA => by
   have hb : b ∈ ids := by simpa using hb
   exact ⟨List.idxOf_lt_length_iff.2 hb, by rw [nth_idx hb]; exact hA⟩, fun b hb hA m hm => by
   have hb : b ∈ ids := by simpa using hb
   have := (hmu0 _ m hm).2; rw [nth_idx hb] at this; exact this⟩
 have hn0 : Now E cx0 σ0 := by
  refine ⟨by simp [cx0, hlen], fun b hb => by rw [hlen]; exact hb.1, fun k h => .inl (hn.IF k h), fun k h => ?_, fun i m hm => ?_, fun i blk hi => ?_, fun i i' m m' hi hi' he => ?_, fun i m hi => hn.base _ m (hmu0 i m hi).2⟩
  ·rcases h with h | ⟨b, m, h1, _, h2⟩
   ·exact hn.imm k h
   ·obtain ⟨_, _, h3, _⟩ := hn.dom b m h1; exact h2 ▸ h3
  ·obtain ⟨hi, hm'⟩ := hmu0 i m hm
   obtain ⟨blk, k1, k2, k3, k4⟩ := hn.dom _ m hm'
   have e0 := hat i hi
   rw [k1] at e0
   obtain ⟨ob, hob⟩ : ∃ ob, σ0[i]? = some ob := ⟨σ0[i]'(by rw [hlen]; exact hi), by rw [List.getElem?_eq_getElem]⟩
   simp only [renStore, List.getElem?_map, hob, Option.map_some, Option.some.injEq] at e0
   cases ob with
   | none => simp at e0
   | some blk0 =>
    simp only [Option.map_some, Option.some.injEq] at e0; subst e0
    refine ⟨blk0, hob, k2, ?_, ?_⟩
    ·rintro (h | ⟨b, m2, h1, h2, h3⟩)
     ·exact k3 h
     ·exact h2 (hn.inj _ _ _ _ h1 hm' h3 ▸ nth_mem hi)
    ·have := k4.ren (c' := cx0) (allBlk_ren hmem blk0 (hblk0 i blk0 hob)) hmov rfl
     rw [renBlk_renBlk hinv blk0 (hblk0 i blk0 hob)] at this
     exact this
  ·have hi' := hblkσ i blk hi
   have hlt : i < ids.length := by rw [← hlen]; exact getElem?_lt hi
   obtain ⟨k1, m, k2⟩ := hn.live _ _ hi'
   exact ⟨⟨hlt, k1⟩, m, by simp only [cx0, if_pos hlt]; exact k2⟩
  ·obtain ⟨a1, a2⟩ := hmu0 i m hi
   obtain ⟨b1, b2⟩ := hmu0 i' m' hi'
   have := hn.inj _ _ _ _ a2 b2 he
   rw [← idx_nth hnd a1, ← idx_nth hnd b1, this]
 have hv0 : VL E cx0 args vs.toList := by
  have := hv.ren (allL_renL hmem args hargs) hmov
  rw [renL_renL hinv args hargs] at this; exact this
 refine (h cx0 vs hn0 hv0).mono ?_
 rintro e w' ⟨re, σ1, cx1, rfl, h2, h3, h4, h5⟩
 have hk : ids.length ≤ σ1.length := by
  have h1 := h4.top
  have h2 : cx1.top = ids.length := h5.top
  omega
 have hsz : cx.w.heap.size ≤ cx1.w.heap.size := h5.size
 let cx2 : Cx := { cx1 with F := fun j => cx1.F j ∨ ∃ b m, cx1.mu b = some m ∧ m.blk = j ∧ b < ids.length, mu := fun b => if b < ids.length then none else cx1.mu b }
 have hmu2 : ∀ b m, cx2.mu b = some m → ids.length ≤ b ∧ cx1.mu b = some m := fun b m hm => by
  simp only [cx2] at hm
  split at hm
  ·simp at hm
  ·rename_i hb; exact ⟨by omega, hm⟩
 have hhide : ∀ (b : Nat), (hide ids.length σ1)[b]? = if b < ids.length then some none else σ1[b]? := fun b => by
  unfold hide
  split
  ·rename_i hb
   rw [List.getElem?_append_left (by simpa using hb), List.getElem?_replicate, if_pos hb]
  ·rename_i hb
   rw [List.getElem?_append_right (by simp; omega), List.getElem?_drop]
   congr 1; simp; omega
 have hx12 : Ext cx1 cx2 := ⟨fun _ h => h, fun _ _ => rfl, fun _ h => h, fun b _ m h => ⟨m, (hmu2 b m h).2, Nat.le_refl _, fun _ => rfl⟩⟩
 have hn2 : Now E cx2 (hide ids.length σ1) := by
  have hl : (hide ids.length σ1).length = σ1.length := by simp [hide]; omega
  refine ⟨by rw [hl]; exact h4.top, fun b hb => by rw [hl]; exact h4.A b hb, fun k h => .inl (h4.IF k h), fun k h => ?_, fun b m hm => ?_, fun b blk hb => ?_, fun b b' m m' hb hb' he => h4.inj b b' m m' (hmu2 b m hb).2 (hmu2 b' m' hb').2 he, fun b m hb => h4.base b m (hmu2 b m hb).2⟩
  ·rcases h with h | ⟨b, m, h1, h2, _⟩
   ·exact h4.imm k h
   ·obtain ⟨_, _, h3, _⟩ := h4.dom b m h1; exact h2 ▸ h3
  ·obtain ⟨hge, hm1⟩ := hmu2 b m hm
   obtain ⟨blk, k1, k2, k3, k4⟩ := h4.dom b m hm1
   refine ⟨blk, by rw [hhide, if_neg (by omega)]; exact k1, k2, ?_, k4.ext hx12 rfl⟩
   rintro (h | ⟨b', m', h1, h2, h3⟩)
   ·exact k3 h
   ·have := h4.inj _ _ _ _ h1 hm1 h2; omega
  ·rw [hhide] at hb
   split at hb
   ·simp at hb
   ·rename_i hlt
    obtain ⟨k1, m, k2⟩ := h4.live b blk hb
    exact ⟨k1, m, by simp only [cx2, if_neg hlt]; exact k2⟩
 let cx' : Cx := { I := cx2.frozen.I, F := fun j => cx.F j ∨ cx2.frozen.I j, w := cx1.w, mu := fun b => if b ∈ ids then cx1.mu (ids.idxOf b) else cx.mu b, A := cx.A, top := cx.top }
 have hfz : ∀ j, cx2.frozen.I j → cx1.I j ∨ ∃ b m, ids.length ≤ b ∧ cx1.mu b = some m ∧ m.blk = j := fun j hj => by
  rcases hj with h | ⟨b, m, h1, h2⟩
  ·exact .inl h
  ·exact .inr ⟨b, m, (hmu2 b m h1).1, (hmu2 b m h1).2, h2⟩
 have hmu' : ∀ b m, cx'.mu b = some m → (b ∈ ids ∧ cx1.mu (ids.idxOf b) = some m) ∨ (b ∉ ids ∧ cx.mu b = some m) := fun b m hm => by
  simp only [cx'] at hm
  split at hm
  ·rename_i h; exact .inl ⟨h, hm⟩
  ·rename_i h; exact .inr ⟨h, hm⟩
 have hFin : ∀ j, cx.F j → cx1.F j := fun j hj => h5.F j (.inl hj)
 have hout : ∀ b m, b ∉ ids → cx.mu b = some m → cx1.F m.blk ∧ cx1.w.heap[m.blk]? = cx.w.heap[m.blk]? ∧ ¬ cx'.F m.blk := fun b m hb hm => by
  have hF0 : cx0.F m.blk := .inr ⟨b, m, hm, hb, rfl⟩
  obtain ⟨_, _, hlt, hF, _⟩ := hn.dom b m hm
  refine ⟨h5.F _ hF0, h5.keeps _ hF0, ?_⟩
  rintro (h | h)
  ·exact hF h
  ·rcases hfz _ h with h | ⟨b', m', hge, h1, h2⟩
   ·exact absurd (h5.F _ hF0) (fun _ => by
     rcases h5.grow _ h with h | h | ⟨x, mx, hx, he⟩
     ·exact hF (hn.IF _ h)
     ·exact absurd hlt (Nat.not_lt.2 h)
     ·obtain ⟨a1, a2⟩ := hmu0 x mx hx
      exact hb (hn.inj _ _ _ _ a2 hm he ▸ nth_mem a1))
   ·rcases h5.muold b' m' h1 with h | ⟨x, mx, hx, he⟩
    ·rw [h2] at h; exact absurd hlt (Nat.not_lt.2 h)
    ·obtain ⟨a1, a2⟩ := hmu0 x mx hx
     exact hb (hn.inj _ _ _ _ a2 hm (he.trans h2) ▸ nth_mem a1)
 have hin : ∀ i m, i < ids.length → cx1.mu i = some m → ¬ cx'.F m.blk := fun i m hi hm => by
  obtain ⟨_, _, _, hF, _⟩ := h4.dom i m hm
  rintro (h | h)
  ·exact hF (hFin _ h)
  ·rcases hfz _ h with h | ⟨b', m', hge, h1, h2⟩
   ·exact hF (h4.IF _ h)
   ·have := h4.inj _ _ _ _ h1 hm h2; omega
 have hext : Ext cx cx' := ⟨fun k hk => .inl (h5.ext.I k hk), fun k hk => h5.keeps k (.inl (hn.IF k hk)), fun b h => h, fun b hb m hm => by
  rcases hmu' b m hm with ⟨h1, h2⟩ | ⟨h1, h2⟩
  ·obtain ⟨m0, g1, g2⟩ := h5.ext.mu (ids.idxOf b) ⟨List.idxOf_lt_length_iff.2 h1, by rw [nth_idx h1]; exact hb⟩ m h2
   have := (hmu0 _ _ g1).2
   rw [nth_idx h1] at this
   exact ⟨m0, this, g2⟩
  ·exact ⟨m, h2, Nat.le_refl _, fun _ => rfl⟩⟩
 have hmov' : Moves cx1 cx' (nth ids) (fun b => decide (b < ids.length)) := ⟨fun k h => .inl h, fun _ _ => rfl, fun b hb hA => by
   have hb : b < ids.length := by simpa using hb
   rcases h5.new b hA with h | h
   ·exact h.2
   ·have : ids.length ≤ b := h
    omega, fun b hb hA m hm => by
   have hb : b < ids.length := by simpa using hb
   rcases hmu' _ m hm with ⟨h1, h2⟩ | ⟨h1, h2⟩
   ·rw [idx_nth hnd hb] at h2; exact h2
   ·exact absurd (nth_mem hb) h1⟩
 have hRe := h2.1
 have hblk1 : ∀ (i : Nat) (blk : Blk), i < ids.length → σ1[i]? = some (some blk) → allBlk (fun b => decide (b < ids.length)) blk = true := fun i blk hi h => by
  have hm : some blk ∈ σ1.take ids.length := List.mem_of_getElem? (i := i) (by rw [List.getElem?_take, if_pos hi]; exact h)
  exact List.all_eq_true.1 hRe _ hm
 let σ' := putAll σ ids (renStore (nth ids) (σ1.take ids.length))
 have hidlt : ∀ b ∈ ids, b < σ.length := fun b hb => by
  have hi := List.idxOf_lt_length_iff.2 hb
  have := hat _ hi
  rw [nth_idx hb] at this
  have hlt : ids.idxOf b < (renStore (nth ids) σ0).length := by simp [renStore, hlen]; exact hi
  rw [List.getElem?_eq_getElem hlt] at this
  exact getElem?_lt this
 have hat' : ∀ i, i < ids.length → σ'[nth ids i]? = (σ1[i]?).map (fun x => x.map (renBlk (nth ids))) := fun i hi => by
  have hl : i < (renStore (nth ids) (σ1.take ids.length)).length := by simp [renStore]; omega
  rw [show σ' = putAll σ ids _ from rfl, putAll_at ids _ σ i hnd hidlt hi hl]
  simp only [renStore, List.getElem?_map, List.getElem?_take, if_pos hi]
 have hot' : ∀ b, b ∉ ids → σ'[b]? = σ[b]? := fun b hb => putAll_other ids _ σ hb
 have hn' : Now E cx' σ' := by
  refine ⟨by rw [show σ'.length = σ.length from putAll_len _ _ _]; exact hn.top, fun b hb => by rw [show σ'.length = σ.length from putAll_len _ _ _]; exact hn.A b hb, fun k h => .inr h, fun k h => ?_, fun b m hm => ?_, fun b blk hb => ?_, fun b b' m m' hb hb' he => ?_, fun b m hb => by
   rcases hmu' b m hb with ⟨_, h2⟩ | ⟨_, h2⟩
   ·exact h4.base _ m h2
   ·exact hn.base _ m h2⟩
  ·rcases h with h | h
   ·exact Nat.lt_of_lt_of_le (hn.imm k h) hsz
   ·rcases hfz k h with h | ⟨b', m', _, h1, h2⟩
    ·exact h4.immI k h
    ·obtain ⟨_, _, h3, _⟩ := h4.dom b' m' h1; exact h2 ▸ h3
  ·rcases hmu' b m hm with ⟨h1, h2⟩ | ⟨h1, h2⟩
   ·have hi := List.idxOf_lt_length_iff.2 h1
    obtain ⟨blk, k1, k2, k3, k4⟩ := h4.dom _ m h2
    refine ⟨renBlk (nth ids) blk, ?_, k2, hin _ m hi h2, k4.ren (hblk1 _ blk hi k1) hmov' rfl⟩
    have := hat' _ hi
    rw [nth_idx h1, k1] at this
    exact this
   ·obtain ⟨blk, k1, k2, k3, k4⟩ := hn.dom b m h2
    obtain ⟨g1, g2, g3⟩ := hout b m h1 h2
    exact ⟨blk, (hot' b h1).trans k1, Nat.lt_of_lt_of_le k2 hsz, g3, k4.ext hext g2⟩
  ·by_cases hb' : b ∈ ids
   ·have hi := List.idxOf_lt_length_iff.2 hb'
    have e0 := hat' _ hi
    rw [nth_idx hb', hb] at e0
    cases h1 : σ1[ids.idxOf b]? with
    | none => rw [h1] at e0; simp at e0
    | some ob =>
     cases ob with
     | none => rw [h1] at e0; simp at e0
     | some blk1 =>
      obtain ⟨k1, m, k2⟩ := h4.live _ blk1 h1
      have hA := h5.new _ k1
      refine ⟨?_, m, by simp only [cx', if_pos hb']; exact k2⟩
      rcases hA with hA | hA
      ·have := hA.2; rw [nth_idx hb'] at this; exact this
      ·have : ids.length ≤ ids.idxOf b := hA
       omega
   ·rw [hot' b hb'] at hb
    obtain ⟨k1, m, k2⟩ := hn.live b blk hb
    exact ⟨k1, m, by simp only [cx', if_neg hb']; exact k2⟩
  ·rcases hmu' b m hb with ⟨h1, h2⟩ | ⟨h1, h2⟩ <;> rcases hmu' b' m' hb' with ⟨g1, g2⟩ | ⟨g1, g2⟩
   ·have := h4.inj _ _ _ _ h2 g2 he
    rw [← nth_idx h1, ← nth_idx g1, this]
   ·obtain ⟨_, _, _, hF, _⟩ := h4.dom _ m h2
    exact absurd ((hout b' m' g1 g2).1) (he ▸ hF)
   ·obtain ⟨_, _, _, hF, _⟩ := h4.dom _ m' g2
    exact absurd ((hout b m h1 h2).1) (he ▸ hF)
   ·exact hn.inj _ _ _ _ h2 g2 he
 have hs' : Step cx cx' := by
  refine ⟨hext, fun k h => .inl h, fun k hk => h5.keeps k (.inl hk), fun k hk => ?_, fun b m hm => ?_, rfl, fun _ h => .inl h, h5.size, h5.os, h5.tape, h5.output⟩
  ·rcases hfz k hk with h | ⟨b', m', hge, h1, h2⟩
   ·rcases h5.grow k h with h | h | ⟨x, mx, hx, he⟩
    ·exact .inl h
    ·exact .inr (.inl h)
    ·exact .inr (.inr ⟨_, mx, (hmu0 x mx hx).2, he⟩)
   ·rcases h5.muold b' m' h1 with h | ⟨x, mx, hx, he⟩
    ·exact .inr (.inl (h2 ▸ h))
    ·exact .inr (.inr ⟨_, mx, (hmu0 x mx hx).2, he.trans h2⟩)
  ·rcases hmu' b m hm with ⟨h1, h2⟩ | ⟨h1, h2⟩
   ·rcases h5.muold _ m h2 with h | ⟨x, mx, hx, he⟩
    ·exact .inl h
    ·exact .inr ⟨_, mx, (hmu0 x mx hx).2, he⟩
   ·exact .inr ⟨b, m, h2, rfl⟩
 have hx1 : Ext cx2.frozen cx' := ⟨fun k h => h, fun _ _ => rfl, fun _ h => h.elim, fun _ h => h.elim⟩
 have h2' := h2.2
 cases re with
 | ret r =>
  cases e <;> simp only [ReOK] at h3
  simp only at h2'
  split at h2'
  ·rename_i y hy
   have hr : V E cx2 r _ := VL.ext h3 hx12
   exact ⟨.ret y, σ', cx', rfl, h2', (V.frz O hn2 hr hy).ext hx1, hn', hs'⟩
  ·exact h2'.elim
 | pan r =>
  cases e <;> simp only [ReOK] at h3
  obtain ⟨v, hch, h3⟩ := h3
  simp only at h2'
  split at h2'
  ·rename_i y hy
   have hr : V E cx2 r v := VL.ext h3 hx12
   exact ⟨.pan y, σ', cx', rfl, h2', ⟨v, hch, (V.frz O hn2 hr hy).ext hx1⟩, hn', hs'⟩
  ·exact h2'.elim
end
def Cx.grown (c : Cx) (w : World) : Cx := { c with w := w, I := fun k => c.I k ∨ (c.w.heap.size ≤ k ∧ k < w.heap.size), F := fun k => c.F k ∨ (c.w.heap.size ≤ k ∧ k < w.heap.size) }
section
variable {E : Env}
theorem Now.grown {cx : Cx} {σ : Store} (hn : Now E cx σ) {w : World} (hb : RowKit.Below cx.w.heap.size cx.w w) : Now E (cx.grown w) σ ∧ Step cx (cx.grown w) := by
 have hext : Ext cx (cx.grown w) := ⟨fun k h => .inl h, fun k h => hb.block k (hn.immI k h), fun _ h => h, fun _ _ m h => ⟨m, h, Nat.le_refl _, fun _ => rfl⟩⟩
 refine ⟨⟨hn.top, hn.A, fun k h => h.imp (hn.IF k) id, fun k h => ?_, fun b m hm => ?_, hn.live, hn.inj, hn.base⟩, ⟨hext, fun k h => .inl h, fun k h => hb.block k (hn.imm k h), fun k h => ?_, fun b m h => .inr ⟨b, m, h, rfl⟩, rfl, fun _ h => .inl h, hb.size, hb.os, hb.tape, hb.output⟩⟩
 ·rcases h with h | h
  ·exact Nat.lt_of_lt_of_le (hn.imm k h) hb.size
  ·exact h.2
 ·obtain ⟨blk, h1, h2, h3, h4⟩ := hn.dom b m hm
  refine ⟨blk, h1, Nat.lt_of_lt_of_le h2 hb.size, ?_, h4.ext hext (hb.block _ h2)⟩
  rintro (h | h)
  ·exact h3 h
  ·omega
 ·rcases h with h | h
  ·exact .inl h
  ·exact .inr (.inl h.1)
theorem C_below {f : FuncId} {args : List PV} {σ : Store} {R : Re → Store → Prop}
  (h : ∀ (cx : Cx) (vs : Array Value), Now E cx σ → VL E cx args vs.toList → Calls E.P f vs cx.w fun e w' => RowKit.Below cx.w.heap.size cx.w w' ∧ ∃ re, R re σ ∧ ReOK E (cx.grown w') re e) : C E f args σ R := fun cx vs hn hv =>
 (h cx vs hn hv).mono fun e w' ⟨hb, re, h1, h2⟩ => ⟨re, σ, cx.grown w', rfl, h1, h2, (hn.grown hb).1, (hn.grown hb).2⟩
theorem V_row {cx : Cx} {w : World} {T : TypeId} {size n : Nat} {v : Value} {cells : List Value} {xs : List PV} (hrow : w.ownsRow cx.w.heap.size T size v n cells) (hlen : xs.length = n) (hx : VCs E (cx.grown w).pure (List.replicate xs.length T) xs cells) :
  V E (cx.grown w) (.lit xs) v := by
 obtain ⟨h1, h2⟩ := hrow
 rcases h2 with ⟨rfl, h3⟩ | ⟨g, cap, cur, rfl, hg, hb, hcap, _, hsz, htake⟩
 ·have : xs = [] := List.length_eq_zero_iff.1 (hlen.trans h3)
  subst this
  exact V_one (.lit0 _ _) (by simp)
 ·subst hlen
  refine V_one (.lit xs T g 0 cap cells cur T (0, 0) (.inr ⟨hg, ?_⟩) hb hx (fun j u hj => ?_) hcap) (by simp)
  ·exact (Array.getElem?_eq_some_iff.1 hb).1
  ·rw [← htake, List.getElem?_take] at hj
   split at hj
   ·simpa using hj
   ·simp at hj
end
def frzN (k : Nat) (σ : Store) : Nat → PV → Option PV
 | 0, _ => none
 | n + 1, x => match x with
  | .nils => some (.lit [])
  | .ptr b g i p => if b < k then some (.ptr b g i p) else (match p, Store.at σ b with
   | [], some (.cells ty g' xs) => if g' = g then (match xs[i]? with | some e => (frzN k σ n e).map .laddr | none => none) else none
   | _, _ => none)
  | .ref b g off len => if b < k then some (.ref b g off len) else (match Store.at σ b with
   | some (.cells ty g' xs) => if g' = g ∧ off + len ≤ xs.length then (match ((xs.drop off).take len).mapM (frzN k σ n) with | some ys => if pureL ys then some (.lit ys) else none | none => none) else none
   | _ => none)
  | .map b => if b < k then some (.map b) else none
  | .agg t fs => (fs.mapM (frzN k σ n)).map (.agg t)
  | .fn f a b => match a.mapM (frzN k σ n), b.mapM (frzN k σ n) with | some a', some b' => some (.fn f a' b') | _, _ => none
  | .tup _ => none
  | .undef => none
  | .iface t y => if belowB k y then some (.iface t y) else none
  | .laddr y => if belowB k y then some (.laddr y) else none
  | x => some x
def frzT (k : Nat) (σ : Store) : PV → Option PV
 | .tup vs => (vs.mapM (frzN k σ 6)).map .tup
 | x => frzN k σ 6 x
def Cx.frzNew (c : Cx) (k : Nat) : Cx := { c with I := fun j => c.I j ∨ ∃ b m, k ≤ b ∧ c.mu b = some m ∧ m.blk = j, F := fun j => c.F j ∨ ∃ b m, k ≤ b ∧ c.mu b = some m ∧ m.blk = j, mu := fun b => if b < k then c.mu b else none, A := fun b => c.A b ∧ b < k }
section
variable {E : Env}
theorem frzNew_lower {c : Cx} {k : Nat} {x : PV} {cs : List Value} (h : VC E c x cs) (hp : belowB k x = true) : VC E (c.frzNew k) x cs :=
 h.lower hp (fun _ h => .inl h) (fun _ _ => rfl) (fun _ h1 h2 => ⟨h1, h2⟩) (fun b m h => by
  simp only [Cx.frzNew] at h
  split at h
  ·exact h
  ·simp at h)
theorem fits_frzN {k : Nat} {σ : Store} {n : Nat} {x y : PV} {T : TypeId} (h : frzN k σ n x = some y) (hf : fits E T x = true) : fits E T y = true := by
 cases n with
 | zero => simp [frzN] at h
 | succ n =>
  unfold frzN at h
  split at h
  ·simp only [Option.some.injEq] at h; subst h; simpa [fits] using hf
  ·split at h
   ·simp only [Option.some.injEq] at h; subst h; exact hf
   ·split at h
    ·split at h
     ·split at h
      ·obtain ⟨ys, _, rfl⟩ := Option.map_eq_some_iff.1 h; simpa [fits] using hf
      ·simp at h
     ·simp at h
    ·simp at h
  ·split at h
   ·simp only [Option.some.injEq] at h; subst h; exact hf
   ·split at h
    ·split at h
     ·split at h
      ·split at h
       ·simp only [Option.some.injEq] at h; subst h; simpa [fits] using hf
       ·simp at h
      ·simp at h
     ·simp at h
    ·simp at h
  ·split at h
   ·simp only [Option.some.injEq] at h; subst h; exact hf
   ·simp at h
  ·obtain ⟨ys, _, rfl⟩ := Option.map_eq_some_iff.1 h; simpa [fits] using hf
  ·split at h
   ·simp only [Option.some.injEq] at h; subst h; simpa [fits] using hf
   ·simp at h
  ·simp at h
  ·simp at h
  ·split at h
   ·simp only [Option.some.injEq] at h; subst h; exact hf
   ·simp at h
  ·split at h
   ·simp only [Option.some.injEq] at h; subst h; exact hf
   ·simp at h
  ·simp only [Option.some.injEq] at h; subst h; exact hf
theorem frzN_agg {k : Nat} {σ : Store} {n : Nat} {x : PV} {t : TypeId} {fs : List PV} (h : frzN k σ n x = some (.agg t fs)) : ∃ gs, x = .agg t gs := by
 cases n with
 | zero => simp [frzN] at h
 | succ n =>
  cases x <;> simp only [frzN] at h <;> first
   | exact ⟨_, by obtain ⟨ys, _, e⟩ := Option.map_eq_some_iff.1 h; simp only [PV.agg.injEq] at e; rw [e.1]⟩
   | (simp at h; done)
   | (exfalso; split at h <;> first
     | (simp at h; done)
     | (split at h <;> first
       | (simp at h; done)
       | (split at h <;> first
         | (simp at h; done)
         | (split at h <;> first
           | (simp at h; done)
           | (simp [Option.map_eq_some_iff] at h; done)
           | (split at h <;> simp at h)))))
theorem VL_frzN {c c' : Cx} {k : Nat} {σ : Store} {n : Nat} (hf : ∀ x y cs, VC E c x cs → frzN k σ n x = some y → VC E c' y cs) : ∀ {xs ys : List PV} {vs : List Value}, VL E c xs vs → xs.mapM (frzN k σ n) = some ys → VL E c' ys vs
 | _, ys, _, .nil, h => by simp at h; subst h; exact .nil
 | _, ys, _, .undef hs, h => by
  simp only [List.mapM_cons] at h
  obtain ⟨y, hy, h⟩ := Option.bind_eq_some_iff.1 h
  cases n <;> simp [frzN] at hy
 | _, ys, _, .one (x := x) h1 hnx hv hs, h => by
  simp only [List.mapM_cons] at h
  obtain ⟨y, hy, h⟩ := Option.bind_eq_some_iff.1 h
  obtain ⟨zs, hzs, h⟩ := Option.bind_eq_some_iff.1 h
  simp only [Option.pure_def, Option.some.injEq] at h; subst h
  refine .one h1 (fun t fs e => ?_) (hf _ _ _ hv hy) (VL_frzN hf hs hzs)
  subst e
  obtain ⟨gs, rfl⟩ := frzN_agg hy
  exact hnx _ _ rfl
 | _, ys, _, .agg hv hs, h => by
  simp only [List.mapM_cons] at h
  obtain ⟨y, hy, h⟩ := Option.bind_eq_some_iff.1 h
  obtain ⟨zs, hzs, h⟩ := Option.bind_eq_some_iff.1 h
  simp only [Option.pure_def, Option.some.injEq] at h; subst h
  have := hf _ _ _ hv hy
  cases n with
  | zero => simp [frzN] at hy
  | succ n =>
   simp only [frzN] at hy
   obtain ⟨fs', _, rfl⟩ := Option.map_eq_some_iff.1 hy
   exact .agg this (VL_frzN hf hs hzs)
 | _, ys, _, .tup hv hs, h => by
  simp only [List.mapM_cons] at h
  obtain ⟨y, hy, h⟩ := Option.bind_eq_some_iff.1 h
  cases n <;> simp [frzN] at hy
theorem frzN_VC (O : E.OK) {c : Cx} {σ : Store} (k : Nat) (hn : Now E c σ) : ∀ (n : Nat) (x y : PV) (cs : List Value), VC E c x cs → frzN k σ n x = some y → VC E (c.frzNew k) y cs
 | 0, x, y, cs, h, hf => by simp [frzN] at hf
 | n + 1, x, y, cs, h, hf => by
  have ih := frzN_VC O k hn n
  unfold frzN at hf
  split at hf
  ·simp only [Option.some.injEq] at hf; subst hf
   cases h with | nils a => exact .lit0 a 0
  ·rename_i b g i p
   split at hf
   ·rename_i hb
    simp only [Option.some.injEq] at hf; subst hf
    exact frzNew_lower h (by simpa [belowB] using hb)
   ·rename_i hb
    split at hf
    ·rename_i ty g' xs hat
     split at hf
     ·rename_i hg; subst hg
      split at hf
      ·rename_i e he
       obtain ⟨e', he', rfl⟩ := Option.map_eq_some_iff.1 hf
       cases h with
       | ptr _ _ _ _ v hv1 hA hle hr =>
        obtain ⟨m, ca, el, fz, ds, cs, h1, h2, h3, h4, h5, h6, h7, h8, h9, h10, h11, h12, h13⟩ := hn.place O (V_one (.ptr b g' i [] v hv1 hA hle hr) (by simp)) hat he
        subst h13
        simp only [pathOff, Nat.add_zero]
        have hw := LW.win h7 h12
        exact .laddr e' m.blk _ cs ca el fz (.inr ⟨b, m, by omega, h1, rfl⟩) h4 (ih _ _ _ h11 he') hw
      ·simp at hf
     ·simp at hf
    ·simp at hf
  ·rename_i b g off len
   split at hf
   ·rename_i hb
    simp only [Option.some.injEq] at hf; subst hf
    exact frzNew_lower h (by simpa [belowB] using hb)
   ·rename_i hb
    split at hf
    ·rename_i ty g' xs hat
     split at hf
     ·rename_i hc
      obtain ⟨rfl, hl⟩ := hc
      split at hf
      ·rename_i ys hys
       split at hf
       ·rename_i hp
        simp only [Option.some.injEq] at hf; subst hf
        cases h with
        | ref _ _ _ _ v h1 hA hle hr =>
         obtain ⟨m, ca, el, fz, cs, j1, j2, j3, j4, j5, j6, j7, j8, j9⟩ := hn.blk hat
         obtain ⟨a, cap, rfl, hcap, hh⟩ := hr m j1 j2
         obtain ⟨hlen, _⟩ := mapM_some hys
         have hxl : ((xs.drop off).take len).length = len := by simp; omega
         have hyl : ys.length = len := by rw [hlen, hxl]
         rcases hh with rfl | ⟨rfl, hfit⟩
         ·have h0 : len = 0 := by omega
          subst h0
          have : ys = [] := List.eq_nil_of_length_eq_zero hyl
          subst this
          exact .lit0 a 0
         ·have v1 : VR E c ty xs cs := j6
          have v2 := (v1.drop O.toFine off).take O.toFine len
          have v3 : VCs E (c.frzNew k) (List.replicate ((xs.drop off).take len).length ty) ys _ := VCs.frz (fun x y cs => ih x y cs) (fun T x y h hf => fits_frzN h hf) v2 hys
          have hw2 := LW.win j7 ((LW_drop cs (off * E.size ty)).trans (LW_take (cs.drop (off * E.size ty)) (len * E.size ty)))
          simp only [Nat.add_zero] at hw2
          have v4 : VCs E (c.frzNew k).pure (List.replicate ys.length ty) ys (List.take (len * E.size ty) (List.drop (off * E.size ty) cs)) := by
           rw [hlen]
           exact v3.lower (n := 0) (belowL_of_pure 0 ys hp) (fun _ h => h) (fun _ _ => rfl) (fun _ _ h => absurd h (by omega)) (fun _ _ h => by simp [Cx.pure] at h)
          have := VC.lit (E := E) (c := c.frzNew k) ys ty m.blk (m.base + off * E.size ty) cap _ ca el fz (.inr ⟨b, m, by omega, j1, rfl⟩) j4 v4 hw2 (by omega)
          rw [hyl] at this; rw [j3]; exact this
       ·simp at hf
      ·simp at hf
     ·simp at hf
    ·simp at hf
  ·split at hf
   ·rename_i hb
    simp only [Option.some.injEq] at hf; subst hf
    exact frzNew_lower h (by simpa [belowB] using hb)
   ·simp at hf
  ·obtain ⟨ys, hys, rfl⟩ := Option.map_eq_some_iff.1 hf
   cases h with
   | agg _ _ _ h => exact .agg _ _ _ (VCs.frz (fun x y cs => ih x y cs) (fun T x y h hf => fits_frzN h hf) h hys)
  ·split at hf
   ·rename_i a' b' h1 h2
    simp only [Option.some.injEq] at hf; subst hf
    cases h with
    | fn _ _ _ vs us k1 k2 => exact .fn _ _ _ vs us (VL_frzN ih k1 h1) (VL_frzN ih k2 h2)
   ·simp at hf
  ·simp at hf
  ·simp at hf
  ·split at hf
   ·rename_i hp
    simp only [Option.some.injEq] at hf; subst hf
    exact frzNew_lower h (by simpa [belowB] using hp)
   ·simp at hf
  ·split at hf
   ·rename_i hp
    simp only [Option.some.injEq] at hf; subst hf
    exact frzNew_lower h (by simpa [belowB] using hp)
   ·simp at hf
  ·rename_i h1 h2 h3 h4 h5 h6 h7 h8 h9 h10
   simp only [Option.some.injEq] at hf; subst hf
   refine frzNew_lower h ?_
   cases x <;> first | rfl | exact (h1 rfl).elim | exact (h2 _ _ _ _ rfl).elim | exact (h3 _ _ _ _ rfl).elim | exact (h4 _ rfl).elim | exact (h5 _ _ rfl).elim | exact (h6 _ _ _ rfl).elim | exact (h7 _ rfl).elim | exact (h8 rfl).elim | exact (h9 _ _ rfl).elim | exact (h10 _ rfl).elim
theorem frzT_V (O : E.OK) {c : Cx} {σ : Store} (k : Nat) (hn : Now E c σ) {x y : PV} {v : Value} (h : V E c x v) (hf : frzT k σ x = some y) : V E (c.frzNew k) y v := by
 unfold frzT at hf
 split at hf
 ·obtain ⟨ys, hys, rfl⟩ := Option.map_eq_some_iff.1 hf
  cases h with
  | one h1 hnx hv hs => cases hv
  | tup hv hs => exact .tup (VL_frzN (frzN_VC O k hn 6) hv hys) .nil
 ·exact VL_frzN (frzN_VC O k hn 6) h (by simp [hf])
mutual
theorem VC.allB {c : Cx} {n : Nat} {x : PV} {cs : List Value} (h : VC E c x cs) (hA : ∀ b, c.A b → b < n) : Proofs.YtdplbgfokoajjaaGreat.allB (fun b => decide (b < n)) x = true :=
 match h with
 | .bool b => rfl
 | .int k n => rfl
 | .str s => rfl
 | .nilp => rfl
 | .ptr b g i q v h1 hb hle h => by simp only [Proofs.YtdplbgfokoajjaaGreat.allB]; exact decide_eq_true (hA b hb)
 | .laddr x k o cs ca t fz hIk hwk hx hwin => by simp only [Proofs.YtdplbgfokoajjaaGreat.allB]; exact hx.allB hA
 | .nils a => rfl
 | .lit0 a n => rfl
 | .lit xs T k o cap cs ca t fz hIk hwk hx hwin hcap => rfl
 | .ref b g i q v h1 hb hle h => by simp only [Proofs.YtdplbgfokoajjaaGreat.allB]; exact decide_eq_true (hA b hb)
 | .nilm => rfl
 | .map b v h1 hb h => by simp only [Proofs.YtdplbgfokoajjaaGreat.allB]; exact decide_eq_true (hA b hb)
 | .nilf => rfl
 | .fn f first cap vs us h1 h2 => by simp only [Proofs.YtdplbgfokoajjaaGreat.allB, h1.allL hA, h2.allL hA, Bool.and_true]
 | .nili => rfl
 | .ifaceA t u fs cs h => by simp only [Proofs.YtdplbgfokoajjaaGreat.allB]; exact h.allB hA
 | .ifaceS t x v h1 h => by simp only [Proofs.YtdplbgfokoajjaaGreat.allB]; exact h.allB hA
 | .agg t fs cs h => by simp only [Proofs.YtdplbgfokoajjaaGreat.allB]; exact h.allL hA
theorem VCs.allL {c : Cx} {n : Nat} {Ts : List TypeId} {xs : List PV} {cs : List Value} (h : VCs E c Ts xs cs) (hA : ∀ b, c.A b → b < n) : Proofs.YtdplbgfokoajjaaGreat.allL (fun b => decide (b < n)) xs = true :=
 match h with
 | .nil => rfl
 | .cons hf h hs => by simp only [Proofs.YtdplbgfokoajjaaGreat.allL, h.allB hA, hs.allL hA, Bool.and_true]
theorem VL.allL {c : Cx} {n : Nat} {xs : List PV} {vs : List Value} (h : VL E c xs vs) (hA : ∀ b, c.A b → b < n) : Proofs.YtdplbgfokoajjaaGreat.allL (fun b => decide (b < n)) xs = true :=
 match h with
 | .nil => rfl
 | .undef hs => by simp only [Proofs.YtdplbgfokoajjaaGreat.allL, Proofs.YtdplbgfokoajjaaGreat.allB, hs.allL hA, Bool.and_true]
 | .one h1 hn h hs => by simp only [Proofs.YtdplbgfokoajjaaGreat.allL, h.allB hA, hs.allL hA, Bool.and_true]
 | .agg h hs => by simp only [Proofs.YtdplbgfokoajjaaGreat.allL, h.allB hA, hs.allL hA, Bool.and_true]
 | .tup h hs => by simp only [Proofs.YtdplbgfokoajjaaGreat.allL, Proofs.YtdplbgfokoajjaaGreat.allB, h.allL hA, hs.allL hA, Bool.and_true]
end
theorem ML.all {c : Cx} {n : Nat} {es : List (Lit × PV)} {ds : List (Lit × DataW Value)} (h : ML E c es ds) (hA : ∀ b, c.A b → b < n) : (es.all fun q => allB (fun b => decide (b < n)) q.2) = true := by
 induction h with
 | nil => rfl
 | cons h hs ih =>
  have := VL.allL h hA
  simp only [Proofs.YtdplbgfokoajjaaGreat.allL, Bool.and_true] at this
  simp only [List.all_cons, this, ih, Bool.and_true]
theorem Now.allStore {c : Cx} {σ : Store} (hn : Now E c σ) : Proofs.YtdplbgfokoajjaaGreat.allStore (fun b => decide (b < σ.length)) σ = true := by
 unfold Proofs.YtdplbgfokoajjaaGreat.allStore
 rw [List.all_eq_true]
 intro x hx
 cases x with
 | none => rfl
 | some blk =>
  obtain ⟨b, hb⟩ := List.getElem?_of_mem hx
  obtain ⟨_, m, hm⟩ := hn.live b blk hb
  obtain ⟨blk', h1, _, _, h4⟩ := hn.dom b m hm
  rw [hb] at h1; simp only [Option.some.injEq] at h1; subst h1
  cases blk with
  | cells ty g xs =>
   obtain ⟨_, _, ca, el, fz, cs, _, _, h5, _⟩ := h4
   exact VCs.allL h5 hn.A
  | mp K es =>
   obtain ⟨_, _, ds, _, h5⟩ := h4
   exact ML.all h5 hn.A
  | loop l st pend n fr ps as bd =>
   obtain ⟨_, _, fn, tmps, dl, _, h5⟩ := h4
   show (fr.all fun q => allB (fun b => decide (b < σ.length)) q.2) = true
   rw [List.all_eq_true]
   intro q hq
   have := VL.allL (h5.2 q hq).2 hn.A
   simpa [allL] using this
def newRe (σ : Store) (R : Re → Store → Prop) (re : Re) (σ' : Store) : Prop :=
 (σ'.take σ.length = σ ∨ allStore (fun b => decide (b < σ.length)) (σ'.take σ.length) = true) ∧
 match re with
 | .ret r => (match frzT σ.length σ' r with | some y => R (.ret y) (σ'.take σ.length) | none => False)
 | .pan r => (match frzT σ.length σ' r with | some y => R (.pan y) (σ'.take σ.length) | none => False)
theorem C_new (O : E.OK) {f : FuncId} {args : List PV} {σ : Store} {R : Re → Store → Prop} (h : C E f args σ (newRe σ R)) : C E f args σ R := fun cx vs hn hv => by
 have hn1 : Now E (cx.label σ.length) σ := hn.label (Nat.le_refl _)
 refine (h (cx.label σ.length) vs hn1 (hv.ext (Ext.label _ _))).mono ?_
 rintro e w' ⟨re, σ1, cx1, rfl, h2, h3, h4, h5⟩
 have hold : allStore (fun b => decide (b < σ.length)) (σ1.take σ.length) = true := by
  rcases h2.1 with h | h
  ·rw [h]; exact hn.allStore
  ·exact h
 let k := σ.length
 have hk : k ≤ σ1.length := by
  have h1 := h4.top
  have h2 : cx1.top = k := h5.top
  omega
 have hmu : ∀ b m, (cx1.frzNew k).mu b = some m → b < k ∧ cx1.mu b = some m := fun b m hm => by
  simp only [Cx.frzNew] at hm
  split at hm
  ·rename_i hb; exact ⟨hb, hm⟩
  ·simp at hm
 let cx' : Cx := (cx1.frzNew k).label cx.top
 have hIin : ∀ j, (cx1.frzNew k).I j → (cx1.frzNew k).F j := fun j hj => hj.imp (h4.IF j) id
 have hlow : ∀ (m : MB) (blk : Blk), BlkOK E cx1 m blk → allBlk (fun b => decide (b < k)) blk = true → BlkOK E cx' m blk := fun m blk hb ha => by
  have := hb.ren (c' := cx') (r := fun b => b) (p := fun b => decide (b < k)) ha ⟨fun _ h => .inl h, fun _ _ => rfl, fun b hb hA => ⟨hA, by simpa using hb⟩, fun b hb hA m hm => (hmu b m hm).2⟩ rfl
  rw [show renBlk (fun b => b) blk = blk from by
   have := renBlk_renBlk (r := fun b => b) (s := fun b => b) (p := fun b => decide (b < k)) (fun _ _ => rfl) blk ha
   have ha2 := allBlk_ren (r := fun b => b) (q := fun b => decide (b < k)) (fun _ h => h) blk ha
   have id1 : ∀ x : PV, Proofs.YtdplbgfokoajjaaGreat.ren (fun b => b) x = x := ren_id
   cases blk with
   | cells ty g xs => simp only [renBlk, renL_id]
   | mp K es => simp [renBlk, ren_id]
   | loop l st pend n fr ps as bd => simp [renBlk, ren_id]] at this
  exact this
 have hn' : Now E cx' (σ1.take k) := by
  have hl : (σ1.take k).length = k := by rw [List.length_take]; omega
  refine ⟨by rw [hl]; exact hn.top, fun b hb => by rw [hl]; exact hb.2, hIin, fun j hj => ?_, fun b m hm => ?_, fun b blk hb => ?_, fun b b' m m' hb hb' he => h4.inj b b' m m' (hmu b m hb).2 (hmu b' m' hb').2 he, fun b m hb => h4.base b m (hmu b m hb).2⟩
  ·rcases hj with h | ⟨b, m, _, h1, h2⟩
   ·exact h4.imm j h
   ·obtain ⟨_, _, h3, _⟩ := h4.dom b m h1; exact h2 ▸ h3
  ·obtain ⟨hb, hm1⟩ := hmu b m hm
   obtain ⟨blk, k1, k2, k3, k4⟩ := h4.dom b m hm1
   have hmem : (σ1.take k)[b]? = some (some blk) := by rw [List.getElem?_take, if_pos hb]; exact k1
   refine ⟨blk, hmem, k2, ?_, hlow m blk k4 (List.all_eq_true.1 hold _ (List.mem_of_getElem? hmem))⟩
   rintro (h | ⟨b', m', h1, h2, h3⟩)
   ·exact k3 h
   ·have := h4.inj _ _ _ _ h2 hm1 h3; omega
  ·have hb0 := hb
   rw [List.getElem?_take] at hb
   split at hb
   ·rename_i hlt
    obtain ⟨k1, m, k2⟩ := h4.live b blk hb
    exact ⟨⟨k1, hlt⟩, m, by show (if b < k then cx1.mu b else none) = some m; rw [if_pos hlt]; exact k2⟩
   ·simp at hb
 have hs1 : Step cx (cx1.label cx.top) := h5.relabel hn.top
 have hs' : Step cx cx' := by
  refine ⟨⟨fun j h => .inl (hs1.ext.I j h), hs1.ext.keeps, fun b hb => ⟨hs1.ext.A b hb, hn.A b hb⟩, fun b hb m hm => hs1.ext.mu b hb m (hmu b m hm).2⟩, fun j h => .inl (hs1.F j h), hs1.keeps, fun j hj => ?_, fun b m hm => hs1.muold b m (hmu b m hm).2, rfl, fun b hb => hs1.new b hb.1, hs1.size, hs1.os, hs1.tape, hs1.output⟩
  rcases hj with h | ⟨b, m, _, h1, h2⟩
  ·exact hs1.grow j h
  ·rcases hs1.muold b m h1 with h | ⟨x, mx, hx, he⟩
   ·exact .inr (.inl (h2 ▸ h))
   ·exact .inr (.inr ⟨x, mx, hx, he.trans h2⟩)
 have h2' := h2.2
 cases re with
 | ret r =>
  cases e <;> simp only [ReOK] at h3
  simp only at h2'
  split at h2'
  ·rename_i y hy
   exact ⟨.ret y, _, cx', rfl, h2', (frzT_V O k h4 h3 hy).ext (Ext.label _ _), hn', hs'⟩
  ·exact h2'.elim
 | pan r =>
  cases e <;> simp only [ReOK] at h3
  obtain ⟨v, hch, h3⟩ := h3
  simp only at h2'
  split at h2'
  ·rename_i y hy
   exact ⟨.pan y, _, cx', rfl, h2', ⟨v, hch, (frzT_V O k h4 h3 hy).ext (Ext.label _ _)⟩, hn', hs'⟩
  ·exact h2'.elim
end
section
variable {E : Env} {fr : Fr} {σ : Store} {ops : Array Oper} {tab : Tab} {base i : Nat} {K : Fr → Store → Prop} {acc : List (Nat × List Nat × Option Nat)}
theorem RD_nil : RD E ops tab base K i [] fr σ acc = K fr σ := by simp [RD]
def RDcall (E : Env) (tab : Tab) (i : Nat) (acc : List (Nat × List Nat × Option Nat)) (σ : Store) (g : FuncId) (vs : List PV) (M : List Nat → PV → Prop) : Prop :=
 ∃ rd v, noConf tab i acc rd none = true ∧ (∀ τ, (∀ b ∈ rd, Store.at τ b = Store.at σ b) → C E g vs τ fun re τ' => re = .ret v ∧ τ' = τ) ∧ M rd v
theorem RD_call {g : FuncId} {vs : List PV} {M : List Nat → PV → Prop} {rd : List Nat} {v : PV} (h1 : ∀ τ, (∀ b ∈ rd, Store.at τ b = Store.at σ b) → C E g vs τ fun re τ' => re = .ret v ∧ τ' = τ) (h2 : noConf tab i acc rd none = true ∧ M rd v) : RDcall E tab i acc σ g vs M :=
 ⟨rd, v, h2.1, h1, h2.2⟩
theorem RD_cons {o : Oper} {os : List Oper} : RD E ops tab base K i (o :: os) fr σ acc =
  match sGuard ops o fr with
  | some true => (match isCall o.op with
   | some c => (match sCallee E fr c with
    | some (g, vs) => RDcall E tab i acc σ g vs fun rd v => RD E ops tab base K (i + 1) os (Fr.put fr o.dst v) σ (accAdd i rd none acc)
    | none => False)
   | none => (match sop E o.op fr σ (base + tab.slot i) with
    | some (v, σ') => noConf tab i acc (foot o.op fr) (wid o.op fr (base + tab.slot i) v) = true ∧ RD E ops tab base K (i + 1) os (Fr.put fr o.dst v) σ' (accAdd i (foot o.op fr) (wid o.op fr (base + tab.slot i) v) acc)
    | none => False))
  | some false => RD E ops tab base K (i + 1) os (Fr.put fr o.dst (.tup [])) σ acc
  | none => False := by rw [RD]; rfl
theorem frz_row {b g ty off len n : Nat} {xs : List PV} (h : Store.at σ b = some (.cells ty g xs)) (hl : off + len ≤ xs.length) (hx : ∀ x ∈ xs, frz σ n x = some x) : frz σ (n + 1) (.ref b g off len) = some (.lit ((xs.drop off).take len)) := by
 have : ((xs.drop off).take len).mapM (frz σ n) = some ((xs.drop off).take len) := mapM_same fun a ha => hx a (List.mem_of_mem_drop (List.mem_of_mem_take ha))
 simp only [frz, h, true_and, hl, if_true, this, Option.map_some]
theorem T_cond_t {N z : Nat} {Q : Post} {t : Nat} {x y : Code} (hg : Fr.get fr t = some (.bool true)) (h1 : T E N z x Q fr σ) : T E N z (.cond (.tmp t) x y) Q fr σ := T_cond hg (fun _ => h1) (by simp)
theorem T_cond_f {N z : Nat} {Q : Post} {t : Nat} {x y : Code} (hg : Fr.get fr t = some (.bool false)) (h1 : T E N z y Q fr σ) : T E N z (.cond (.tmp t) x y) Q fr σ := T_cond hg (by simp) (fun _ => h1)
end
def Cx.bare (c : Cx) (w : World) : Cx := { I := c.I, F := fun k => k < w.heap.size, w := w, mu := fun _ => none, A := fun _ => False, top := 0 }
section
variable {E : Env} {N z : Nat} {Q : Post} {fr : Fr} {σ : Store}
theorem Now.bare {c : Cx} {w : World} (hI : ∀ k, c.I k → k < w.heap.size) : Now E (c.bare w) [] :=
 ⟨Nat.zero_le _, fun _ h => h.elim, hI, fun _ h => h, fun _ _ h => by simp [Cx.bare] at h, fun _ _ h => by simp at h, fun _ _ _ _ h => by simp [Cx.bare] at h, fun _ _ h => by simp [Cx.bare] at h⟩
theorem V.bare {c : Cx} {w : World} {x : PV} {v : Value} (h : V E c x v) (hp : pureB x = true) (hw : ∀ k, c.I k → w.heap[k]? = c.w.heap[k]?) : V E (c.bare w) x v :=
 VL.lower (n := 0) h (by simp [belowL, below_of_pure 0 x hp]) (fun _ h => h) hw (fun b _ h => by omega) (fun _ _ h => by simp [Cx.bare] at h)
theorem wpl_keep {P : Program} {ops : Array Oper} {M : Exit → Act → World → Prop} {t : Nat} {x : Option Value} : ∀ (os : List Oper) (a : Act) (w : World), (∀ o ∈ os, o.dst ≠ some t) → a.tmps[t]? = x → wpl P ops M os a w →
  wpl P ops (fun e a' w' => M e a' w' ∧ (e = .normal → a'.tmps[t]? = x)) os a w
 | [], a, w, _, hx, h => fun r => ⟨h r, fun _ => hx⟩
 | o :: os, a, w, hd, hx, h => fun r => by
  exact keepIn r (o :: os) a w hd hx (h r)
where
 keepIn {P : Program} {ops : Array Oper} {M : Exit → Act → World → Prop} {t : Nat} {x : Option Value} (r : Option Nat) : ∀ (os : List Oper) (a : Act) (w : World), (∀ o ∈ os, o.dst ≠ some t) → a.tmps[t]? = x → wpListIn (FW r) 0 P ops M os a w →
  wpListIn (FW r) 0 P ops (fun e a' w' => M e a' w' ∧ (e = .normal → a'.tmps[t]? = x)) os a w
 | [], a, w, _, hx, h => ⟨h, fun _ => hx⟩
 | o :: os, a, w, hd, hx, h => by
  have hput : ∀ (ds : List Deferred) (v : Value), (Act.put { a with defers := ds } o.dst v).tmps[t]? = x := fun ds v => by
   have hne := hd o (by simp)
   cases hdst : o.dst with
   | none => exact hx
   | some d =>
    simp only [Act.put]
    rw [Array.getElem?_setIfInBounds_ne (fun e => hne (by rw [hdst, e]))]
    exact hx
  have ih := fun ds v w => keepIn (P := P) (ops := ops) (M := M) (t := t) (x := x) r os (Act.put { a with defers := ds } o.dst v) w (fun o ho => hd o (by simp [ho])) (hput ds v)
  have hout : LetsOut M → LetsOut (fun e a' w' => M e a' w' ∧ (e = .normal → a'.tmps[t]? = x)) := fun h => by
   obtain ⟨a0, w0, h0⟩ := h
   exact ⟨a0, w0, h0, by simp⟩
  unfold wpListIn at h ⊢
  split at h
  ·rename_i hw
   rw [if_pos hw]
   unfold Oper.wpIn at *
   refine ⟨h.1, ?_⟩
   have h := h.2
   generalize (o.semAt (FW r).round a.eval).run P w = rr at *
   cases rr with
   | ok n w' =>
    cases n <;> simp only [Oper.uponIn] at h ⊢ <;> first
     | exact ih a.defers _ _ h
     | exact ih _ _ _ h
     | exact ⟨h.1, CallsIn.mono h.2 (fun e w'' he => by cases e <;> first | exact ih a.defers _ _ he | exact ⟨he, by simp⟩ | exact hout he)⟩
     | exact ⟨h.1, RowsIn.mono h.2 (fun _ _ he => ih a.defers _ _ he)⟩
     | exact ⟨h.1, RoundIn.mono h.2 (fun e w'' he => by cases e <;> first | exact ih a.defers _ _ he | exact ⟨he, by simp⟩ | exact hout he)⟩
   | halt n w' => cases n <;> simp only [Oper.uponIn] at h ⊢ <;> first | exact ⟨h, by simp⟩ | exact h
  ·rename_i hw
   rw [if_neg hw]
   exact ⟨h.1, ih a.defers _ _ h.2⟩
theorem wpl_then {ops : Array Oper} {M : Exit → Act → World → Prop} {K : Fr → Store → Prop} {os2 : List Oper} {ds : List Deferred} {cx0 : Cx}
  (hc : ∀ fr' σ' (cx' : Cx) (a' : Act), K fr' σ' → Now E cx' σ' → FR E cx' N fr' a'.tmps → a'.defers = ds → Step (cx0.below z) cx' → wpl E.P ops M os2 a' cx'.w) :
  ∀ (os : List Oper) (fr : Fr) (σ : Store), (∀ o ∈ os, ∀ t, o.dst = some t → t < N) → ROps E N z ops (fun _ _ _ => False) K os fr σ →
  ∀ (cx : Cx) (a : Act), a.defers = ds → cx.top ≤ z → Now E cx σ → FR E cx N fr a.tmps → Step (cx0.below z) cx → wpl E.P ops M (os ++ os2) a cx.w
 | [], fr, σ, hd, h, cx, a, hds, ht, hn, hf, hs => hc fr σ cx a h hn hf hds hs
 | o :: os, fr, σ, hd, h, cx, a, hds, ht, hn, hf, hs => by
  obtain ⟨b, hb, h⟩ := h
  have hw := wanted_of_guard hf hb
  show wpl E.P ops M (o :: (os ++ os2)) a cx.w
  refine wpl_step ?_
  rw [hw]
  cases b with
  | true =>
   simp only [if_true] at h ⊢
   refine opr_mono ?_ ?_ (h cx a ht hn hf)
   ·rintro a' w' ⟨fr', σ', cx', rfl, hk, hn', hf', hd', hs'⟩
    exact wpl_then hc os fr' σ' (fun o ho => hd o (by simp [ho])) hk cx' a' (hd'.trans hds) (hs'.top ▸ ht) hn' hf' (hs.transB (hs'.ofBelow ht))
   ·rintro e a' w' ⟨_, _, _, _, _, hl, _⟩; exact hl.elim
  | false =>
   simp only [Bool.false_eq_true, if_false] at h ⊢
   have hput : FR E cx N (Fr.put fr o.dst (.tup [])) (a.put o.dst undef).tmps := hf.put V_skip (hd o (by simp))
   have hde : (a.put o.dst undef).defers = a.defers := by cases o.dst <;> rfl
   exact wpl_then hc os _ σ (fun o ho => hd o (by simp [ho])) h cx (a.put o.dst undef) (hde.trans hds) ht hn hput hs
theorem wpl_mono {P : Program} {ops : Array Oper} {M M' : Exit → Act → World → Prop} (h : ∀ e a w, M e a w → M' e a w) (os : List Oper) (a : Act) (w : World) (k : wpl P ops M os a w) : wpl P ops M' os a w := fun r => go r os a w (k r)
where
 go (r : Option Nat) : ∀ (os : List Oper) (a : Act) (w : World), wpListIn (FW r) 0 P ops M os a w → wpListIn (FW r) 0 P ops M' os a w
 | [], a, w, k => h _ _ _ k
 | o :: os, a, w, k => by
  have hout : LetsOut M → LetsOut M' := fun ⟨a0, w0, h0⟩ => ⟨a0, w0, h _ _ _ h0⟩
  have ih := go r os
  unfold wpListIn at k ⊢
  split at k
  ·rename_i hw
   rw [if_pos hw]
   unfold Oper.wpIn at *
   refine ⟨k.1, ?_⟩
   have hh := k.2
   generalize (o.semAt (FW r).round a.eval).run P w = rr at *
   cases rr with
   | ok x w' =>
    cases x <;> simp only [Oper.uponIn] at hh ⊢ <;>
     first
      | exact ih _ _ hh
      | exact ⟨hh.1, CallsIn.mono hh.2 (fun e w'' he => by cases e <;> first | exact ih _ _ he | exact h _ _ _ he | exact hout he)⟩
      | exact ⟨hh.1, RowsIn.mono hh.2 (fun _ _ he => ih _ _ he)⟩
      | exact ⟨hh.1, RoundIn.mono hh.2 (fun e w'' he => by cases e <;> first | exact ih _ _ he | exact h _ _ _ he | exact hout he)⟩
   | halt x w' => cases x <;> simp only [Oper.uponIn] at hh ⊢ <;> first | exact h _ _ _ hh | exact hh
  ·rename_i hw
   rw [if_neg hw]
   exact ⟨k.1, ih _ _ k.2⟩
theorem wpl_keeping (O : E.OK) {ops : Array Oper} {M : Exit → Act → World → Prop} {K : Fr → Store → Prop} {cx : Cx} {a : Act} (t : Nat) (os : List Oper) (hd : (os.all fun o => match o.dst with | some u => decide (u < N) && !(u == t) | none => true) = true)
  (ht : cx.top ≤ z) (hn : Now E cx σ) (hf : FR E cx N fr a.tmps) (h : RF E ops (fun _ _ _ => False) K os fr σ)
  (hc : ∀ fr' σ' (cx' : Cx) (a' : Act), K fr' σ' → Now E cx' σ' → FR E cx' N fr' a'.tmps → a'.defers = a.defers → Step (cx.below z) cx' → a'.tmps[t]? = a.tmps[t]? → M .normal a' cx'.w) : wpl E.P ops M os a cx.w := by
 have hd1 : ∀ o ∈ os, ∀ t, o.dst = some t → t < N := fun o ho u hu => by
  have := List.all_eq_true.1 hd o ho
  rw [hu] at this; simp only [Bool.and_eq_true, decide_eq_true_eq] at this; exact this.1
 have hd2 : ∀ o ∈ os, o.dst ≠ some t := fun o ho hu => by
  have := List.all_eq_true.1 hd o ho
  rw [hu] at this; simp at this
 have h1 : wpl E.P ops (fun e a' w' => e = .normal ∧ ∃ fr' σ' cx', cx'.w = w' ∧ K fr' σ' ∧ Now E cx' σ' ∧ FR E cx' N fr' a'.tmps ∧ a'.defers = a.defers ∧ Step (cx.below z) cx') (os ++ []) a cx.w :=
  wpl_then (cx0 := cx) (z := z) (ds := a.defers) (fun fr' σ' cx' a' hk hn hf hd hs => wpl_nil ⟨rfl, fr', σ', cx', rfl, hk, hn, hf, hd, hs⟩) os fr σ hd1 (ROps_of_RF O _ fr σ hd1 h) cx a rfl ht hn hf ((Step.refl cx).ofBelow ht)
 rw [List.append_nil] at h1
 refine wpl_mono ?_ os a cx.w (wpl_keep os a cx.w hd2 rfl h1)
 rintro e a' w' ⟨⟨rfl, fr', σ', cx', rfl, k1, k2, k3, k4, k5⟩, k6⟩
 exact hc fr' σ' cx' a' k1 k2 k3 k4 k5 (k6 rfl)
theorem wpl_split (O : E.OK) {ops : Array Oper} {M : Exit → Act → World → Prop} {K : Fr → Store → Prop} {cx : Cx} {a : Act} (k : Nat) (os : List Oper) (hd : (os.all fun o => match o.dst with | some t => decide (t < N) | none => true) = true)
  (ht : cx.top ≤ z) (hn : Now E cx σ) (hf : FR E cx N fr a.tmps) (h : RF E ops (fun _ _ _ => False) K (os.take k) fr σ)
  (hc : ∀ fr' σ' (cx' : Cx) (a' : Act), K fr' σ' → Now E cx' σ' → FR E cx' N fr' a'.tmps → a'.defers = a.defers → Step (cx.below z) cx' → wpl E.P ops M (os.drop k) a' cx'.w) : wpl E.P ops M os a cx.w := by
 have hd' : ∀ o ∈ os.take k, ∀ t, o.dst = some t → t < N := fun o ho t ht => by
  have := List.all_eq_true.1 hd o (List.mem_of_mem_take ho)
  rw [ht] at this; simpa using this
 rw [← List.take_append_drop k os]
 exact wpl_then hc (os.take k) fr σ hd' (ROps_of_RF O _ fr σ hd' h) cx a rfl ht hn hf ((Step.refl cx).ofBelow ht)
open Go.Maps (Keyed)
section
variable {H : Type} {P : Program} {w : World} {ops : Array Oper} {rest : List Oper} {o : Oper} {a : Act} {Q : Exit → Act → World → Prop}
theorem wpl_value {val : Value} {w' : World} (hg : o.guard = none) (h1 : (execOp a.eval o).run P w = .ok (.value val) w') (h : wpl P ops Q rest (a.put o.dst val) w') : wpl P ops Q (o :: rest) a w :=
 wpl_step (by simp only [Region.wanted, hg, if_true]; exact opr_value h1 (.inl rfl) h)
theorem wpl_range_own (hg : o.guard = none) (m : Operand) (t : TypeId) (hop : o.op = Op.range t m) (k e : TypeId) (K : Keyed P k) (ht : P.underlying t = some (.map k e)) (R : Value → Option (DataW H × List MemPlace)) (b nn : Nat) (D : DataW H)
  (hm : a.eval m = .map (some b)) (hown : w.ownsMap P k R b nn D)
  (hK : ∀ w', w'.ranges P k R b w.heap.size nn D (Maps.has D) (Maps.size D) → w.grownBy w' none → w'.heap.size = w.heap.size + 1 → wpl P ops Q rest (a.put o.dst (.pointer (some ⟨w.heap.size, 0, none⟩))) w') :
  wpl P ops Q (o :: rest) a w := fun r => wpListIn_range_own w hg m t hop k e K ht R b nn D hm hown fun w' h1 h2 h3 => hK w' h1 h2 h3 r
theorem wpl_next_ranges {α β : Type} (hg : o.guard = none) (it : Operand) (hop : o.op = Op.next it false) (k : TypeId) (K : Keyed P k) (R : Value → Option (DataW H × List MemPlace)) (mkK : α → Value) (mkV : β → Value)
  (invK : ∀ key kl, keyOf P k key = some kl → ∃ x, key = mkK x) (invV : ∀ v y, R v = some y → ∃ c, v = mkV c) (b r nn : Nat) (D : DataW H) (left : Lit → Bool) (cnt : Nat)
  (hit : a.eval it = .pointer (some ⟨r, 0, none⟩)) (h : w.ranges P k R b r nn D left cnt)
  (hDone : cnt = 0 → (∀ kl, left kl = false) → wpl P ops Q rest (a.put o.dst (.tuple #[.bool false])) w)
  (hMore : ∀ (x : α) (c : β) (kl : Lit) (y : DataW H × List MemPlace) (w' : World) (cnt' : Nat), keyOf P k (mkK x) = some kl → left kl = true → R (mkV c) = some y → (∀ zd, D.atKey kl zd = y.1) → w'.ranges P k R b r nn D (fun z => left z && !z.sameKey kl) cnt' → cnt' < cnt →
   w.grownBy w' (some r) → w'.heap.size = w.heap.size → (Instr.entry (.pointer (some ⟨r, 0, none⟩))).run P w' = .ok (.tuple #[mkK x, mkV c]) w' → wpl P ops Q rest (a.put o.dst (.tuple #[.bool true, mkK x, mkV c])) w') :
  wpl P ops Q (o :: rest) a w := fun r' => wpListIn_next_ranges w hg it hop k K R mkK mkV invK invV b r nn D left cnt hit h (fun h1 h2 => hDone h1 h2 r') fun x c kl y w' cnt' h1 h2 h3 h4 h5 h6 h7 h8 h9 => hMore x c kl y w' cnt' h1 h2 h3 h4 h5 h6 h7 h8 h9 r'
end
end
def belowBlk (n : Nat) : Blk → Bool
 | .cells _ _ xs => belowL n xs
 | .mp _ es => es.all fun q => belowB n q.2
 | .loop _ _ _ _ fr _ _ _ => fr.all fun q => belowB n q.2
def belowStore (n : Nat) (σ : Store) : Bool := σ.all fun x => match x with | some b => belowBlk n b | none => true
def belowFr (n : Nat) (fr : Fr) : Bool := fr.all fun p => belowB n p.2
section
variable {E : Env} {N z : Nat} {Q : Post} {fr : Fr} {σ : Store}
def Cx.upto (c : Cx) (n : Nat) : Cx := { c with mu := fun b => if b < n then c.mu b else none, A := fun b => b < n ∧ c.A b }
theorem Cx.upto_mu {c : Cx} {n b : Nat} {m : MB} (h : (c.upto n).mu b = some m) : b < n ∧ c.mu b = some m := by
 simp only [Cx.upto] at h
 split at h
 ·exact ⟨by assumption, h⟩
 ·simp at h
theorem ML.lower {c c' : Cx} {n : Nat} {es : List (Lit × PV)} {ds : List (Lit × DataW Value)} (h : ML E c es ds) (hp : (es.all fun q => belowB n q.2) = true) (hI : ∀ k, c.I k → c'.I k) (hw : ∀ k, c.I k → c'.w.heap[k]? = c.w.heap[k]?)
  (hA : ∀ b, c.A b → b < n → c'.A b) (hmu : ∀ b m, c'.mu b = some m → c.mu b = some m) : ML E c' es ds := by
 induction h with
 | nil => exact .nil
 | cons h hs ih =>
  simp only [List.all_cons, Bool.and_eq_true] at hp
  exact .cons (VL.lower h (by simp [belowL, hp.1]) hI hw hA hmu) (ih hp.2)
theorem Now.upto {c : Cx} (hn : Now E c σ) (n : Nat) (htop : c.top ≤ n) (hall : belowStore n (σ.take n) = true) : Now E (c.upto n) (σ.take n) := by
 have hI : ∀ k, c.I k → (c.upto n).I k := fun _ h => h
 have hA : ∀ b, c.A b → b < n → (c.upto n).A b := fun b h h' => ⟨h', h⟩
 have hmu : ∀ b m, (c.upto n).mu b = some m → c.mu b = some m := fun b m h => (Cx.upto_mu h).2
 refine ⟨?_, fun b hb => ?_, hn.IF, hn.imm, fun b m hm => ?_, fun b blk hb => ?_, fun b b' m m' h h' e => hn.inj b b' m m' (hmu b m h) (hmu b' m' h') e, fun b m h => hn.base b m (hmu b m h)⟩
 ·have := hn.top; simp only [List.length_take]; exact Nat.le_min.2 ⟨htop, this⟩
 ·have := hn.A b hb.2; simp only [List.length_take]; exact Nat.lt_min.2 ⟨hb.1, this⟩
 ·obtain ⟨hlt, hm'⟩ := Cx.upto_mu hm
  obtain ⟨blk, h1, h2, h3, h4⟩ := hn.dom b m hm'
  have h1' : (σ.take n)[b]? = some (some blk) := by rw [List.getElem?_take_of_lt hlt]; exact h1
  refine ⟨blk, h1', h2, h3, ?_⟩
  have hb := List.all_eq_true.1 hall _ (List.mem_of_getElem? h1')
  simp only at hb
  cases blk with
  | cells ty g xs =>
   obtain ⟨k1, k2, ca, e, fz, cs, k3, k4, k5, k6, k7, k8⟩ := h4
   exact ⟨k1, k2, ca, e, fz, cs, k3, k4, k5.lower hb hI (fun _ _ => rfl) hA hmu, k6, k7, k8⟩
  | mp K es =>
   obtain ⟨k1, k2, ds, k3, k4⟩ := h4
   exact ⟨k1, k2, ds, k3, k4.lower hb hI (fun _ _ => rfl) hA hmu⟩
  | loop l st pend n' fr ps as bd =>
   obtain ⟨k1, k2, fn, tmps, dl, k3, k4⟩ := h4
   refine ⟨k1, k2, fn, tmps, dl, k3, k4.1, fun q hq => ⟨(k4.2 q hq).1, VL.lower (k4.2 q hq).2 (n := n) ?_ hI (fun _ _ => rfl) hA hmu⟩⟩
   have := List.all_eq_true.1 hb q hq
   simpa [belowL] using this
 ·have hlt : b < n := by
   have := getElem?_lt hb
   simp at this; omega
  rw [List.getElem?_take_of_lt hlt] at hb
  obtain ⟨h1, m, h2⟩ := hn.live b blk hb
  exact ⟨⟨hlt, h1⟩, m, by simp [Cx.upto, hlt, h2]⟩
theorem TL_fall {c : Code} {fr' : Fr} {σ' : Store} (n : Nat) (ts : List Nat) (hz : z ≤ n) (hfr : Fr.keep ts fr = fr') (hb : belowFr n fr' = true) (hσ : σ.take n = σ') (hall : belowStore n σ' = true) (h : TL E N z c Q fr' σ') : TL E N z c Q fr σ := fun cx a ht hn hf => by
 subst hfr hσ
 have hn' := hn.upto n (Nat.le_trans ht hz) hall
 have hf0 := hf.keep ts
 have hf' : FR E (cx.upto n) N (Fr.keep ts fr) a.tmps := ⟨hf0.1, fun t x hx => by
  obtain ⟨h1, h2⟩ := hf0.2 t x hx
  refine ⟨h1, VL.lower h2 (n := n) ?_ (fun _ h => h) (fun _ _ => rfl) (fun b h h' => ⟨h', h⟩) (fun b m h => (Cx.upto_mu h).2)⟩
  have := List.all_eq_true.1 hb (t, x) (Fr.get_mem hx)
  simpa [belowL] using this⟩
 have hs : Step (cx.below z) (cx.upto n) := ⟨⟨fun _ h => h, fun _ _ => rfl, fun b hb => ⟨Nat.lt_of_lt_of_le hb.2 hz, hb.1⟩, fun b _ m h => ⟨m, (Cx.upto_mu h).2, Nat.le_refl _, fun _ => rfl⟩⟩, fun _ h => h, fun _ _ => rfl, fun _ h => .inl h,
  fun b m h => .inr ⟨b, m, (Cx.upto_mu h).2, rfl⟩, rfl, fun b hb => by
   rcases Nat.lt_or_ge b z with h | h
   ·exact .inl ⟨hb.2, h⟩
   ·exact .inr (Nat.le_trans ht h), Nat.le_refl _, rfl, rfl, rfl⟩
 exact (h (cx.upto n) a ht hn' hf').mono fun e a w => Lift.step hs
end
section
variable {E : Env} {σ : Store}
def Cx.still (c : Cx) (b : Nat) : Cx := { c with I := fun k => c.I k ∨ ∃ m, c.mu b = some m ∧ m.blk = k, F := fun k => c.F k ∨ ∃ m, c.mu b = some m ∧ m.blk = k, mu := fun x => if x = b then none else c.mu x }
theorem Cx.still_mu {c : Cx} {b x : Nat} {m : MB} (h : (c.still b).mu x = some m) : x ≠ b ∧ c.mu x = some m := by
 simp only [Cx.still] at h
 split at h
 ·simp at h
 ·exact ⟨by assumption, h⟩
theorem Cx.still_ext (c : Cx) (b : Nat) : Ext c (c.still b) := ⟨fun _ h => .inl h, fun _ _ => rfl, fun _ h => h, fun x _ m h => ⟨m, (Cx.still_mu h).2, Nat.le_refl _, fun _ => rfl⟩⟩
theorem Now.still {c : Cx} (hn : Now E c σ) (b : Nat) : Now E (c.still b) (σ.set b none) ∧ Step c (c.still b) := by
 have he := Cx.still_ext c b
 refine ⟨⟨by have := hn.top; simpa [Cx.still] using this, fun x hx => by have := hn.A x hx; simpa using this, fun k h => h.imp (hn.IF k) id, fun k h => ?_, fun x m hm => ?_, fun x blk hx => ?_, fun x x' m m' h h' e => hn.inj x x' m m' (Cx.still_mu h).2 (Cx.still_mu h').2 e, fun x m h => hn.base x m (Cx.still_mu h).2⟩,
  ⟨he, fun _ h => .inl h, fun _ _ => rfl, fun k h => ?_, fun x m h => .inr ⟨x, m, (Cx.still_mu h).2, rfl⟩, rfl, fun _ h => .inl h, Nat.le_refl _, rfl, rfl, rfl⟩⟩
 ·rcases h with h | ⟨m, h1, h2⟩
  ·exact hn.imm k h
  ·obtain ⟨_, _, h3, _⟩ := hn.dom b m h1
   exact h2 ▸ h3
 ·obtain ⟨hne, hm'⟩ := Cx.still_mu hm
  obtain ⟨blk, h1, h2, h3, h4⟩ := hn.dom x m hm'
  refine ⟨blk, by rw [List.getElem?_set_ne (Ne.symm hne)]; exact h1, h2, ?_, h4.ext he rfl⟩
  rintro (h | ⟨m2, k1, k2⟩)
  ·exact h3 h
  ·exact hne (hn.inj x b m m2 hm' k1 k2.symm)
 ·have hne : x ≠ b := fun e => by
   subst e
   rw [List.getElem?_set] at hx
   simp only [if_true] at hx
   split at hx <;> simp at hx
  rw [List.getElem?_set_ne (Ne.symm hne)] at hx
  obtain ⟨h1, m, h2⟩ := hn.live x blk hx
  exact ⟨h1, m, by simp [Cx.still, hne, h2]⟩
 ·rcases h with h | ⟨m, h1, h2⟩
  ·exact .inl h
  ·exact .inr (.inr ⟨b, m, h1, h2⟩)
theorem V.still {c : Cx} (hn : Now E c σ) {b g ty : Nat} {xs : List PV} (hb : Store.at σ b = some (.cells ty g xs)) (hp : pureL xs = true) {v : Value} (h : V E c (.ref b g 0 xs.length) v) : V E (c.still b) (.lit xs) v := by
 obtain ⟨m, ca, el, fz, cs, j1, j2, j3, j4, j5, j6, j7, j8, j9⟩ := hn.blk hb
 obtain ⟨a, cap, rfl, hcap, hh⟩ := h.ref_inv.2.2 m j1 j2
 cases xs with
 | nil => exact V_one (.lit0 _ _) (by simp)
 | cons x xs =>
  obtain ⟨rfl, hfit⟩ := hh.resolve_left (by simp at hcap; omega)
  refine V_one (.lit (x :: xs) ty m.blk (m.base + 0 * E.size m.ty) cap cs ca el fz (.inr ⟨m, j1, rfl⟩) j4 ?_ (by simpa using j7) hcap) (by simp)
  exact j6.lower (n := 0) (belowL_of_pure 0 _ hp) (fun k h => .inl h) (fun _ _ => rfl) (fun b _ h => by omega) (fun b m h => by simp [Cx.pure] at h)
theorem VL.split {c : Cx} : ∀ {xs ys : List PV} {vs : List Value}, VL E c (xs ++ ys) vs → ∃ us ws, vs = us ++ ws ∧ VL E c xs us ∧ VL E c ys ws
 | [], ys, vs, h => ⟨[], vs, rfl, .nil, h⟩
 | x :: xs, ys, vs, h => by
  have h : VL E c (x :: (xs ++ ys)) vs := h
  cases h with
  | undef hs => obtain ⟨us, ws, rfl, h1, h2⟩ := VL.split hs; exact ⟨_, ws, rfl, .undef h1, h2⟩
  | one h1 hn hx hs => obtain ⟨us, ws, rfl, k1, k2⟩ := VL.split hs; exact ⟨_, ws, rfl, .one h1 hn hx k1, k2⟩
  | agg hx hs => obtain ⟨us, ws, rfl, k1, k2⟩ := VL.split hs; exact ⟨_, ws, rfl, .agg hx k1, k2⟩
  | tup hx hs => obtain ⟨us, ws, rfl, k1, k2⟩ := VL.split hs; exact ⟨_, ws, rfl, .tup hx k1, k2⟩
theorem C_still {f : FuncId} {pre : List PV} {R : Re → Store → Prop} {b g ty n : Nat} {xs : List PV} (hb : Store.at σ b = some (.cells ty g xs)) (hp : pureL xs = true) (hlen : n = xs.length) (h : C E f (pre ++ [.lit xs]) (σ.set b none) R) :
  C E f (pre ++ [.ref b g 0 n]) σ R := fun cx vs hn hv => by
 subst hlen
 obtain ⟨us, ws, e, h1, h2⟩ := VL.split hv
 obtain ⟨v, rfl⟩ : ∃ v, ws = [v] := by
  have := h2.len
  match ws, this with
  | [v], _ => exact ⟨v, rfl⟩
 obtain ⟨n1, s1⟩ := hn.still b
 have hv' : VL E (cx.still b) (pre ++ [.lit xs]) vs.toList := by
  rw [e]
  exact VL.app (VL.ext h1 s1.ext) (V.still hn hb hp h2)
 refine (h (cx.still b) vs n1 hv').mono ?_
 rintro e w' ⟨re, σ', cx', rfl, k1, k2, k3, k4⟩
 exact ⟨re, σ', cx', rfl, k1, k2, k3, s1.trans k4⟩
end
def cx0 (w : World) : Cx := { I := fun k => k < w.heap.size, F := fun k => k < w.heap.size, w := w, mu := fun _ => none, A := fun _ => False, top := 0 }
theorem Now.cx0 {E : Env} (w : World) : Now E (cx0 w) [] :=
 ⟨Nat.zero_le _, fun _ h => h.elim, fun _ h => h, fun _ h => h, fun _ _ h => by simp [Proofs.YtdplbgfokoajjaaGreat.cx0] at h, fun _ _ h => by simp at h, fun _ _ _ _ h => by simp [Proofs.YtdplbgfokoajjaaGreat.cx0] at h, fun _ _ h => by simp [Proofs.YtdplbgfokoajjaaGreat.cx0] at h⟩
def Dat (E : Env) : Nat → TypeId → PV → Prop
 | 0, _, _ => False
 | n + 1, t, x => match E.td t with
  | .bool => ∃ b, x = .bool b
  | .int k => ∃ i, x = .int k i ∧ (Lit.int k i).wf = true
  | .str => ∃ s, x = .str s ∧ s.size ≤ maxLen
  | .slice e => ∃ xs, x = .lit xs ∧ xs.length ≤ maxLen ∧ ∀ y ∈ xs, Dat E n e y
  | .st => ∃ fs, x = .agg t fs ∧ fs.length = (E.lay t).length ∧ ∀ (i : Nat) u y, (E.lay t)[i]? = some u → fs[i]? = some y → Dat E n u y
  | _ => False
def simpleT (E : Env) : Nat → TypeId → Bool
 | 0, _ => false
 | n + 1, t => E.kn t && match E.td t with
  | .bool => true
  | .int _ => true
  | .str => true
  | .slice e => simpleT E n e
  | .st => (E.lay t).all (simpleT E n)
  | _ => false
section
variable {E : Env}
theorem mapM_get {α β : Type} {f : α → Option β} {l : List α} {r : List β} (h : l.mapM f = some r) : r.length = l.length ∧ ∀ (i : Nat) (a : α), l[i]? = some a → ∃ b, f a = some b ∧ r[i]? = some b := mapM_some h
theorem plain_of {t : TypeId} (O : E.OK) (hk : E.kn t = true) {d : TypeDesc} (hd : (match d with | .struct _ | .array _ _ => true | _ => false) = false) (hu : E.P.underlying t = some d) : E.agg t = false := by
 obtain ⟨d', h1, h2⟩ := O.und t hk
 rw [hu, Option.some.injEq] at h1; subst h1
 exact h2.trans hd
theorem cellsOf_eq (O : E.OK) {t : TypeId} (hk : E.kn t = true) : E.P.cellsOf t = E.size t := by
 obtain ⟨i, h1, h2, _⟩ := O.info t hk
 simp [Program.cellsOf, h1, h2]
theorem simple_kn {n : Nat} {t : TypeId} (h : simpleT E n t = true) : E.kn t = true := by
 cases n with
 | zero => simp [simpleT] at h
 | succ n => simp only [simpleT, Bool.and_eq_true] at h; exact h.1
theorem VCs_parts (O : E.OK) {c : Cx} {D : TypeId → PV → Prop} : ∀ (Ts : List TypeId) (cs : List Value), cs.length = (Ts.map E.size).sum →
  (∀ (k : Nat) T, Ts[k]? = some T → ∃ x, VC E c x ((cs.drop ((Ts.take k).map E.size).sum).take (E.size T)) ∧ fits E T x = true ∧ D T x) →
  ∃ xs, VCs E c Ts xs cs ∧ xs.length = Ts.length ∧ ∀ (i : Nat) u y, Ts[i]? = some u → xs[i]? = some y → D u y
 | [], cs, hl, _ => by
  have : cs = [] := List.length_eq_zero_iff.1 (by simpa using hl)
  subst this
  exact ⟨[], .nil, rfl, by simp⟩
 | T :: Ts, cs, hl, h => by
  obtain ⟨x, h1, h2, h3⟩ := h 0 T rfl
  simp only [List.take_zero, List.map_nil, List.sum_nil, List.drop_zero] at h1
  simp only [List.map_cons, List.sum_cons] at hl
  obtain ⟨xs, k1, k2, k3⟩ := VCs_parts O (c := c) (D := D) Ts (cs.drop (E.size T)) (by simp; omega) (fun k U hU => by
   have := h (k + 1) U (by simpa using hU)
   simpa [List.drop_drop] using this)
  refine ⟨x :: xs, ?_, by simp [k2], fun i u y hu hy => ?_⟩
  ·have := VCs.cons h2 h1 k1
   rwa [List.take_append_drop] at this
  ·cases i with
   | zero => simp at hu hy; subst hu; subst hy; exact h3
   | succ i => exact k3 i u y (by simpa using hu) (by simpa using hy)
theorem cell_spot {w : World} {a : Addr} {v : Value} (h : w.cell? a = some v) : a.spot = none ∧ ∃ ca e fz, w.heap[a.block]? = some (.cells ca e fz) ∧ ca[a.off]? = some v := by
 unfold World.cell? at h
 split at h
 ·rename_i c e fz hb
  split at h
  ·simp at h
  ·rename_i hs
   exact ⟨by simpa using hs, c, e, fz, hb, h⟩
 ·simp at h
theorem cells_get {w : World} {base : Nat} {a : Addr} {n : Nat} {cs : List Value} (h : w.cells? base a n = some cs) : cs.length = n ∧ ∀ j, j < n → w.cell? (a.add j) = cs[j]? := by
 unfold World.cells? at h
 split at h
 ·obtain ⟨h1, h2⟩ := mapM_get h
  simp only [List.length_range] at h1
  refine ⟨h1, fun j hj => ?_⟩
  obtain ⟨b, h3, h4⟩ := h2 j j (by simp [hj])
  rw [h3, h4]
 ·simp at h
theorem add_add {a : Addr} (hs : a.spot = none) (m j : Nat) : (a.add m).add j = ⟨a.block, a.off + m + j, none⟩ := by
 obtain ⟨b, o, s⟩ := a
 simp only at hs; subst hs
 unfold Addr.add
 by_cases h1 : m = 0 <;> by_cases h2 : j = 0 <;> simp [h1, h2]
theorem row_VC (O : E.OK) {D : PV → Prop} {e : TypeId} (hke : E.kn e = true) (hpos : 0 < E.size e) {w : World} {a : Addr} {len cap : Nat} (hlc : len ≤ cap)
  (h : ∀ i, i < len → ∃ ci x, w.cells? 0 (a.add (i * E.size e)) (E.size e) = some ci ∧ VC E (cx0 w) x ci ∧ fits E e x = true ∧ D x) :
  ∃ xs, VC E (cx0 w) (.lit xs) [.slice (some a) len cap] ∧ xs.length = len ∧ ∀ y ∈ xs, D y := by
 cases len with
 | zero => exact ⟨[], .lit0 _ _, rfl, by simp⟩
 | succ len =>
  obtain ⟨c0, x0, h0, _⟩ := h 0 (by omega)
  obtain ⟨g1, g2⟩ := cells_get h0
  have hc0 := g2 0 hpos
  have hlt0 : 0 < c0.length := by omega
  rw [List.getElem?_eq_getElem hlt0] at hc0
  have hsp : a.spot = none := by
   have := (cell_spot hc0).1
   simpa [Addr.add] using this
  have haddr : ∀ i j, (a.add (i * E.size e)).add j = ⟨a.block, a.off + i * E.size e + j, none⟩ := fun i j => add_add hsp _ _
  obtain ⟨_, ca, el, fz, hb, _⟩ := cell_spot hc0
  have hb : w.heap[a.block]? = some (.cells ca el fz) := by
   rw [haddr 0 0] at hb; exact hb
  have hcell : ∀ i ci, i < len + 1 → w.cells? 0 (a.add (i * E.size e)) (E.size e) = some ci → ci.length = E.size e ∧ ∀ j, j < E.size e → ca[a.off + i * E.size e + j]? = ci[j]? := fun i ci hi hci => by
   obtain ⟨k1, k2⟩ := cells_get hci
   refine ⟨k1, fun j hj => ?_⟩
   rw [← k2 j hj, haddr i j]
   simp [World.cell?, hb]
  have hfit : a.off + (len + 1) * E.size e ≤ ca.size := by
   obtain ⟨ci, _, hci, _⟩ := h len (by omega)
   obtain ⟨k1, k2⟩ := hcell len ci (by omega) hci
   have := k2 (E.size e - 1) (by omega)
   rw [List.getElem?_eq_getElem (by omega)] at this
   have := (Array.getElem?_eq_some_iff.1 this).1
   rw [Nat.add_mul]; omega
  have hsum : ∀ k, k ≤ len + 1 → (((List.replicate (len + 1) e).take k).map E.size).sum = k * E.size e := fun k hk => by
   rw [List.take_replicate, List.map_replicate, List.sum_replicate_nat, Nat.min_eq_left hk]
  obtain ⟨xs, v1, v2, v3⟩ := VCs_parts O (c := cx0 w) (D := fun _ y => D y) (List.replicate (len + 1) e) ((ca.toList.drop a.off).take ((len + 1) * E.size e)) (by
   have := hsum (len + 1) (Nat.le_refl _)
   rw [List.take_of_length_le (by simp)] at this
   rw [this, List.length_take, List.length_drop, Array.length_toList]; omega) (fun k T hT => by
   have hk : k < len + 1 := by have := getElem?_lt hT; simpa using this
   have hT' : T = e := by
    rw [List.getElem?_replicate, if_pos hk, Option.some.injEq] at hT
    exact hT.symm
   subst hT'
   obtain ⟨ci, x, hci, hv, hf, hD⟩ := h k hk
   obtain ⟨k1, k2⟩ := hcell k ci hk hci
   refine ⟨x, ?_, hf, hD⟩
   have hmul : k * E.size T + E.size T ≤ (len + 1) * E.size T := by rw [← Nat.succ_mul]; exact Nat.mul_le_mul_right _ hk
   have : (((ca.toList.drop a.off).take ((len + 1) * E.size T)).drop (((List.replicate (len + 1) T).take k).map E.size).sum).take (E.size T) = ci := by
    rw [hsum k (by omega)]
    apply List.ext_getElem?
    intro j
    by_cases hj : j < E.size T
    ·rw [List.getElem?_take_of_lt hj, List.getElem?_drop, List.getElem?_take_of_lt (by omega), List.getElem?_drop, Array.getElem?_toList, ← k2 j hj]
     congr 1; omega
    ·rw [List.getElem?_eq_none (by simp; omega), List.getElem?_eq_none (by omega)]
   rw [this]; exact hv)
  simp only [List.length_replicate] at v2
  refine ⟨xs, ?_, v2, fun y hy => ?_⟩
  ·have hlit := VC.lit (E := E) (c := cx0 w) xs e a.block a.off cap ((ca.toList.drop a.off).take ((len + 1) * E.size e)) ca el fz (Array.getElem?_eq_some_iff.1 hb).1 hb (by rw [v2]; exact v1) (fun j v hj => by
    rw [List.getElem?_take] at hj
    split at hj
    ·rw [List.getElem?_drop, Array.getElem?_toList] at hj; exact hj
    ·simp at hj) (by omega)
   rw [v2] at hlit
   have : a = ⟨a.block, a.off, none⟩ := by obtain ⟨b, o, s⟩ := a; simp only at hsp; subst hsp; rfl
   rw [this]; exact hlit
  ·obtain ⟨i, hi⟩ := List.mem_iff_getElem?.1 hy
   have hlt := getElem?_lt hi
   exact v3 i e y (by rw [List.getElem?_replicate]; simp; omega) hi
theorem trod_VC (O : E.OK) {H : Type} {enc : TypeId × Value → H} (w : World) {sp : Nat → Bool} {held : Bool} : ∀ (fuel n : Nat) (t : TypeId) (cs : List Value) (d : DataW H) (ps : List MemPlace), simpleT E n t = true → DataW.trod enc E.P w 0 sp held fuel t cs = some (d, ps) →
  ∃ x, VC E (cx0 w) x cs ∧ fits E t x = true ∧ Dat E n t x
 | 0, n, t, cs, d, ps, hs, h => by simp [DataW.trod] at h
 | fuel + 1, 0, t, cs, d, ps, hs, h => by simp [simpleT] at hs
 | fuel + 1, n + 1, t, cs, d, ps, hs, h => by
  have ih := fun t cs d ps h1 h2 => trod_VC O (enc := enc) (sp := sp) (held := held) w fuel n t cs d ps h1 h2
  simp only [simpleT, Bool.and_eq_true] at hs
  obtain ⟨hk, hs⟩ := hs
  have htd := O.td t hk
  simp only [Dat]
  cases hd : E.td t <;> rw [hd] at hs htd <;> simp only [Bool.false_eq_true] at hs
  ·have hu : E.P.underlying t = some .bool := htd
   have ha := plain_of O hk rfl hu
   rcases cs with _ | ⟨v, _ | ⟨u, r⟩⟩
   ·simp [DataW.trod, hu] at h
   ·cases v <;> simp [DataW.trod, hu] at h
    exact ⟨_, .bool _, by simp [fits, ha], _, rfl⟩
   ·simp [DataW.trod, hu] at h
  ·rename_i k
   have hu : E.P.underlying t = some (.int k) := htd
   have ha := plain_of O hk rfl hu
   rcases cs with _ | ⟨v, _ | ⟨u, r⟩⟩
   ·simp [DataW.trod, hu] at h
   ·cases v <;> simp [DataW.trod, hu] at h
    obtain ⟨⟨rfl, hw⟩, _⟩ := h
    exact ⟨_, .int _ _, by simp [fits, ha], _, rfl, hw⟩
   ·simp [DataW.trod, hu] at h
  ·have hu : E.P.underlying t = some .string := htd
   have ha := plain_of O hk rfl hu
   rcases cs with _ | ⟨v, _ | ⟨u, r⟩⟩
   ·simp [DataW.trod, hu] at h
   ·cases v <;> simp [DataW.trod, hu] at h
    exact ⟨_, .str _, by simp [fits, ha], _, rfl, h.1⟩
   ·simp [DataW.trod, hu] at h
  ·rename_i e
   obtain ⟨hu, hke, hpos⟩ := htd
   have ha := plain_of O hk rfl hu
   have hce := cellsOf_eq O hke
   rcases cs with _ | ⟨v, _ | ⟨u, r⟩⟩
   ·simp [DataW.trod, hu] at h
   ·cases v with
    | slice a len cap =>
     cases a with
     | none =>
      refine ⟨.lit [], ?_, by simp [fits, ha], [], rfl, by simp, by simp⟩
      cases len <;> cases cap <;> simp [DataW.trod, hu] at h
      exact .lit0 _ _
     | some a =>
      simp only [DataW.trod, hu] at h
      split at h
      ·rename_i hc
       obtain ⟨_, hlc, hcm⟩ := hc
       simp only [Option.bind_eq_some_iff] at h
       obtain ⟨elems, hel, _⟩ := h
       obtain ⟨hlen, hget⟩ := mapM_get hel
       simp only [List.length_range] at hlen
       rw [hce] at hget
       obtain ⟨xs, v1, v2, v3⟩ := row_VC O (D := Dat E n e) hke hpos hlc (fun i hi => by
        obtain ⟨b, k1, _⟩ := hget i i (by simp [hi])
        simp only [Option.bind_eq_some_iff] at k1
        obtain ⟨ci, k2, k3⟩ := k1
        obtain ⟨x, m1, m2, m3⟩ := ih e ci b.1 b.2 hs k3
        exact ⟨ci, x, k2, m1, m2, m3⟩)
       exact ⟨.lit xs, v1, by simp [fits, ha], xs, rfl, by omega, v3⟩
      ·simp at h
    | _ => simp [DataW.trod, hu] at h
   ·simp [DataW.trod, hu] at h
  ·obtain ⟨fields, hu, hsz, hfs⟩ := htd
   have ha : E.agg t = true := by
    obtain ⟨d', h1, h2⟩ := O.und t hk
    rw [hu, Option.some.injEq] at h1; subst h1
    exact h2
   have hce := cellsOf_eq O hk
   simp only [DataW.trod, hu] at h
   split at h
   ·rename_i hlen
    simp only [Option.map_eq_some_iff] at h
    obtain ⟨ys, hys, _⟩ := h
    obtain ⟨g1, g2⟩ := mapM_get hys
    obtain ⟨xs, v1, v2, v3⟩ := VCs_parts O (c := cx0 w) (D := Dat E n) (E.lay t) cs (by rw [hlen, hce, O.aggr t ha]) (fun k T hT => by
     have hkl : k < fields.size := by rw [hsz]; exact getElem?_lt hT
     obtain ⟨k1, k2, k3, k4⟩ := hfs k fields[k] (by simp [hkl])
     rw [hT, Option.some.injEq] at k1; subst k1
     obtain ⟨b, m1, _⟩ := g2 k fields[k] (by simp [hkl])
     rw [k2, cellsOf_eq O k3] at m1
     have hsT := List.all_eq_true.1 hs _ (List.mem_of_getElem? hT)
     obtain ⟨x, n1, n2, n3⟩ := ih _ _ b.1 b.2 hsT m1
     exact ⟨x, n1, n2, n3⟩)
    exact ⟨.agg t xs, .agg t xs cs v1, by simp [fits, ha], xs, rfl, v2, v3⟩
   ·simp at h
end
inductive DV where
 | call (g : FuncId) (vs : List PV)
 | mark
inductive DSR (E : Env) (n0 : Nat) (c : Cx) : Nat → List DV → List Deferred → Prop
 | nil {hi : Nat} : DSR E n0 c hi [] []
 | call {hi : Nat} {g : FuncId} {vs : List PV} {ds : List DV} {l : List Deferred} (us ws : Array Value) (hv : VL E c vs (us ++ ws).toList) (hs : DSR E n0 c hi ds l) : DSR E n0 c hi (.call g vs :: ds) ({ target := .fn (.func g) ws, args := us } :: l)
 | mark {hi : Nat} {ds : List DV} {l : List Deferred} (r : Nat) (h0 : n0 ≤ r) (hr : r < hi) (hF : c.F r) (hI : ¬ c.I r) (hw : c.w.heap[r]? = some (.deferred (some []))) (hs : DSR E n0 c r ds l) : DSR E n0 c hi (.mark :: ds) ({ target := .collected r, args := #[] } :: l)
abbrev PostD := List DV → Post
section
variable {E : Env} {N : Nat} {Q : PostD} {fr : Fr} {σ : Store} {ds : List DV}
theorem DSR.hi {c : Cx} {n0 : Nat} : ∀ {hi hi' : Nat} {ds : List DV} {l : List Deferred}, DSR E n0 c hi ds l → hi ≤ hi' → DSR E n0 c hi' ds l
 | _, _, _, _, .nil, _ => .nil
 | _, _, _, _, .call us ws hv hs, h => .call us ws hv (hs.hi h)
 | _, _, _, _, .mark r h0 hr hF hI hw hs, h => .mark r h0 (Nat.lt_of_lt_of_le hr h) hF hI hw hs
theorem DSR.step {c c' : Cx} {n0 : Nat} (hn : Now E c σ) (s : Step c c') : ∀ {hi : Nat} {ds : List DV} {l : List Deferred}, DSR E n0 c hi ds l → DSR E n0 c' hi ds l
 | _, _, _, .nil => .nil
 | _, _, _, .call us ws hv hs => .call us ws (hv.ext s.ext) (hs.step hn s)
 | _, _, _, .mark r h0 hr hF hI hw hs => .mark r h0 hr (s.F r hF) (fun h => by
   rcases s.grow r h with h | h | ⟨b, m, h1, h2⟩
   ·exact hI h
   ·have := hn.imm r hF; omega
   ·obtain ⟨_, _, _, h3, _⟩ := hn.dom b m h1
    exact h3 (h2 ▸ hF)) ((s.keeps r hF).trans hw) (hs.step hn s)
def LiftD (E : Env) (N n0 : Nat) (cx : Cx) (Q : PostD) (e : Exit) (a' : Act) (w' : World) : Prop :=
 ∃ ex fr' σ' cx' ds', cx'.w = w' ∧ Q ds' ex fr' σ' ∧ ExOK E cx' ex e ∧ Now E cx' σ' ∧ FR E cx' N fr' a'.tmps ∧ DSR E n0 cx' cx'.w.heap.size ds' a'.defers ∧ Step cx cx'
def TZ (E : Env) (N : Nat) (c : Code) (Q : PostD) (ds : List DV) (fr : Fr) (σ : Store) : Prop :=
 ∀ (n0 : Nat) (cx : Cx) (a : Act), n0 ≤ cx.w.heap.size → Now E cx σ → FR E cx N fr a.tmps → DSR E n0 cx cx.w.heap.size ds a.defers → c.wp E.P (LiftD E N n0 cx Q) a cx.w
theorem LiftD.step {n0 : Nat} {c c' : Cx} {e : Exit} {a : Act} {w : World} (s : Step c c') (h : LiftD E N n0 c' Q e a w) : LiftD E N n0 c Q e a w := by
 obtain ⟨ex, fr, σ, c2, ds, h1, h2, h3, h4, h5, h6, h7⟩ := h
 exact ⟨ex, fr, σ, c2, ds, h1, h2, h3, h4, h5, h6, s.trans h7⟩
theorem LiftD.mono {n0 : Nat} {Q' : PostD} {c : Cx} {e : Exit} {a : Act} {w : World} (q : ∀ ds e fr σ, Q ds e fr σ → Q' ds e fr σ) (h : LiftD E N n0 c Q e a w) : LiftD E N n0 c Q' e a w := by
 obtain ⟨ex, fr, σ, c2, ds, h1, h2, h3, h4, h5, h6, h7⟩ := h
 exact ⟨ex, fr, σ, c2, ds, h1, q _ _ _ _ h2, h3, h4, h5, h6, h7⟩
theorem TZ.mono {c : Code} {Q' : PostD} (h : TZ E N c Q ds fr σ) (q : ∀ ds e fr σ, Q ds e fr σ → Q' ds e fr σ) : TZ E N c Q' ds fr σ := fun n0 cx a h0 hn hf hd => wp_mono (h n0 cx a h0 hn hf hd) fun e a w => LiftD.mono q
theorem Step.unbelow {c c' : Cx} {z : Nat} (h : Step (c.below z) c') (hA : ∀ b, c.A b → b < z) : Step c c' :=
 ⟨⟨h.ext.I, h.ext.keeps, fun b hb => h.ext.A b ⟨hb, hA b hb⟩, fun b hb => h.ext.mu b ⟨hb, hA b hb⟩⟩, h.F, h.keeps, h.grow, h.muold, h.top, fun b hb => (h.new b hb).imp And.left id, h.size, h.os, h.tape, h.output⟩
theorem LiftD_of_Lift {n0 : Nat} {cx : Cx} {l : List Deferred} {e : Exit} {a : Act} {w : World} (hn : Now E cx σ) (hd : DSR E n0 cx cx.w.heap.size ds l) (h : Lift E N σ.length l cx (Q ds) e a w) : LiftD E N n0 cx Q e a w := by
 obtain ⟨ex, fr', σ', cx', h1, h2, h3, h4, h5, h6, h7⟩ := h
 have hs := h7.unbelow hn.A
 exact ⟨ex, fr', σ', cx', ds, h1, h2, h3, h4, h5, by rw [h6]; exact (hd.step hn hs).hi hs.size, hs⟩
theorem TZ_of_T {c : Code} (h : T E N σ.length c (Q ds) fr σ) : TZ E N c Q ds fr σ := fun n0 cx a h0 hn hf hd =>
 wp_mono (wp_of_wr (h cx a hn.top hn hf)) fun e a' w' hl => LiftD_of_Lift hn hd hl
def PostD.seq (K : List DV → Fr → Store → Prop) (Q : PostD) : PostD := fun ds => Post.seq (K ds) (Q ds)
def PostD.block (id : Nat) (Q : PostD) : PostD := fun ds => Post.block id (Q ds)
theorem TZ_seq {x y : Code} (h : TZ E N x (PostD.seq (TZ E N y Q) Q) ds fr σ) : TZ E N (.seq x y) Q ds fr σ := fun n0 cx a h0 hn hf hd =>
 wp_seq (wp_mono (h n0 cx a h0 hn hf hd) fun e a' w' hl => by
  obtain ⟨ex, fr', σ', cx', ds', rfl, h2, h3, h4, h5, h6, h7⟩ := hl
  cases ex <;> cases e <;> simp only [ExOK] at h3 <;> try exact h3.elim
  ·exact wp_mono (h2 n0 cx' a' (Nat.le_trans h0 h7.size) h4 h5 h6) fun e a w => LiftD.step h7
  ·exact ⟨_, fr', σ', cx', ds', rfl, h2, h3, h4, h5, h6, h7⟩
  ·exact ⟨_, fr', σ', cx', ds', rfl, h2, trivial, h4, h5, h6, h7⟩
  ·exact ⟨_, fr', σ', cx', ds', rfl, h2, h3, h4, h5, h6, h7⟩)
theorem TZ_seqk {x y : Code} (h : ∀ K : List DV → Fr → Store → Prop, (∀ ds fr σ, TZ E N y Q ds fr σ → K ds fr σ) → TZ E N x (PostD.seq K Q) ds fr σ) : TZ E N (.seq x y) Q ds fr σ := TZ_seq (h _ fun _ _ _ h => h)
theorem TZ_block {id : Nat} {c : Code} (h : TZ E N c (PostD.block id Q) ds fr σ) : TZ E N (.block id c) Q ds fr σ := fun n0 cx a h0 hn hf hd =>
 wp_block (wp_mono (h n0 cx a h0 hn hf hd) fun e a' w' hl => by
  obtain ⟨ex, fr', σ', cx', ds', rfl, h2, h3, h4, h5, h6, h7⟩ := hl
  cases ex <;> cases e <;> simp only [ExOK] at h3 <;> try exact h3.elim
  ·exact ⟨.normal, fr', σ', cx', ds', rfl, h2, trivial, h4, h5, h6, h7⟩
  ·subst h3
   simp only [PostD.block, Post.block_exit] at h2
   simp only [Exit.inBlock]
   split <;> rename_i hi
   ·rw [if_pos hi] at h2
    exact ⟨.normal, fr', σ', cx', ds', rfl, h2, trivial, h4, h5, h6, h7⟩
   ·rw [if_neg hi] at h2
    exact ⟨.exit _, fr', σ', cx', ds', rfl, h2, rfl, h4, h5, h6, h7⟩
  ·exact ⟨.ret, fr', σ', cx', ds', rfl, h2, trivial, h4, h5, h6, h7⟩
  ·exact ⟨.pan _, fr', σ', cx', ds', rfl, h2, h3, h4, h5, h6, h7⟩)
theorem Now.guard {c : Cx} (hn : Now E c σ) (o : Obj) : Now E { c with w := c.w.alloc o, F := fun k => c.F k ∨ k = c.w.heap.size } σ ∧ Step c { c with w := c.w.alloc o, F := fun k => c.F k ∨ k = c.w.heap.size } := by
 have hold : ∀ k, k < c.w.heap.size → (c.w.alloc o).heap[k]? = c.w.heap[k]? := fun k hk => heap_alloc_old' c.w o k hk
 have hsz : (c.w.alloc o).heap.size = c.w.heap.size + 1 := World.size_alloc _ _
 have hext : Ext c { c with w := c.w.alloc o, F := fun k => c.F k ∨ k = c.w.heap.size } := ⟨fun _ h => h, fun k h => hold k (hn.immI k h), fun _ h => h, fun _ _ m h => ⟨m, h, Nat.le_refl _, fun _ => rfl⟩⟩
 refine ⟨⟨hn.top, hn.A, fun k h => .inl (hn.IF k h), fun k h => ?_, fun b m hm => ?_, hn.live, hn.inj, hn.base⟩, ⟨hext, fun k h => .inl h, fun k h => hold k (hn.imm k h), fun k h => .inl h, fun b m h => .inr ⟨b, m, h, rfl⟩, rfl, fun _ h => .inl h, by simp only [hsz]; omega, rfl, rfl, rfl⟩⟩
 ·simp only [hsz]
  rcases h with h | h
  ·have := hn.imm k h; omega
  ·omega
 ·obtain ⟨blk, h1, h2, h3, h4⟩ := hn.dom b m hm
  refine ⟨blk, h1, by simp only [hsz]; omega, ?_, h4.ext hext (hold _ h2)⟩
  rintro (h | h)
  ·exact h3 h
  ·omega
def rangeR (E : Env) (N : Nat) (Q : PostD) (ds : List DV) (b : Nat) (fr : Fr) (re : Re) (σ : Store) : Prop :=
 match re with
 | .ret _ => match Store.at σ b with
  | some (.loop _ st pend _ _ _ _ _) => (st == .busy) = false ∧ match pend with
   | none => Q (.mark :: ds) .normal fr (σ.set b none)
   | some c => TZ E N c Q (.mark :: ds) fr (σ.set b none)
  | _ => False
 | .pan _ => False
theorem TZ_range (O : E.OK) {g : Operand} {ps : Array Tmp} {assign body : Code} {gf : FuncId} {xs ys : List PV} (ts : List Nat) (hg : Fr.eval fr g = some (.fn (.func gf) xs ys)) (hk : E.fk gf = true)
  (h : ∀ l, C E gf (xs ++ [.fn (.yield l) [] []] ++ ys) (σ ++ [some (.loop l .ready none N (Fr.keep ts fr) ps assign body)]) (rangeR E N Q ds σ.length fr)) : TZ E N (.rangeFunc g ps assign body) Q ds fr σ := fun n0 cx a h0 hn hf hd => by
 refine wpIn_wide (n := 0).1 (wpIn_rangeFunc fun fn _ => ?_)
 obtain ⟨us, ws, g1, g2, g3⟩ := (hf.ev g _ hg).fn_inv
 have n1 := hn.guard (.deferred (some []))
 let c1 : Cx := { cx with w := cx.w.alloc (.deferred (some [])), F := fun k => cx.F k ∨ k = cx.w.heap.size }
 have hs1 : Step cx c1 := n1.2
 have hn1 : Now E c1 σ := n1.1
 have hsz1 : c1.w.heap.size = cx.w.heap.size + 1 := World.size_alloc _ _
 let rec0 : Loop := { state := .ready, pending := none, fn := fn, tmps := a.tmps, params := ps, assign := assign, body := body, defers := cx.w.heap.size }
 let w2 : World := c1.w.alloc (.loop rec0)
 have hsz2 : w2.heap.size = cx.w.heap.size + 2 := (World.size_alloc _ _).trans (by rw [hsz1])
 let m : MB := ⟨cx.w.heap.size + 1, 0, 0, 0, 0⟩
 have hA : ¬ c1.A σ.length := fun hb => by have := hn1.A _ hb; omega
 have hfa : ∀ p ∈ Fr.keep ts fr, p.1 < N ∧ V E cx p.2 (a.tmps.getD p.1 undef) := fun p hp => by
  unfold Fr.keep at hp
  obtain ⟨t, _, ht⟩ := List.mem_filterMap.1 hp
  obtain ⟨x, hx, rfl⟩ := Option.map_eq_some_iff.1 ht
  exact hf.2 t x hx
 obtain ⟨hn2, hs2⟩ := hn1.alloc (b := σ.length) hA hn1.top (m := m) (w := w2) (by rw [hsz1, hsz2]; omega) (fun k hk => heap_alloc_old' c1.w _ k hk) rfl rfl rfl (by show c1.w.heap.size ≤ cx.w.heap.size + 1; omega) (by show cx.w.heap.size + 1 < w2.heap.size; omega)
  (blk := .loop (cx.w.heap.size + 1) .ready none N (Fr.keep ts fr) ps assign body) (fun ext => ⟨rfl, rfl, fn, a.tmps, cx.w.heap.size, by
   show w2.heap[cx.w.heap.size + 1]? = some (.loop rec0)
   rw [← hsz1]; exact World.alloc_heap_new c1.w _, hf.1, fun p hp => ⟨(hfa p hp).1, ((hfa p hp).2.ext hs1.ext).ext ext⟩⟩)
 have hσ2 : Store.new σ σ.length (.loop (cx.w.heap.size + 1) .ready none N (Fr.keep ts fr) ps assign body) = σ ++ [some (.loop (cx.w.heap.size + 1) .ready none N (Fr.keep ts fr) ps assign body)] := by simp [Store.new]
 rw [hσ2] at hn2
 have hs02 := hs1.trans hs2
 have hcall := h (cx.w.heap.size + 1) (c1.add w2 σ.length m) (us ++ #[.func (.yield (cx.w.heap.size + 1)) #[] #[]] ++ ws) hn2 (by
  have k1 := g2.ext hs02.ext
  have k2 := g3.ext hs02.ext
  have k3 : VL E (c1.add w2 σ.length m) [PV.fn (.yield (cx.w.heap.size + 1)) [] []] [.func (.yield (cx.w.heap.size + 1)) #[] #[]] := V_one (.fn _ _ _ #[] #[] .nil .nil) (by simp)
  simpa using (k1.app k3).app k2)
 refine ⟨cx.w.heap.size + 1, [{ target := .collected cx.w.heap.size, args := #[] }], w2, { target := .fn (.func gf) ws, args := us ++ #[.func (.yield (cx.w.heap.size + 1)) #[] #[]] }, w2, gf, _, w2, ?_, ?_, fun _ _ => trivial, ?_, fun h => by simp [Fence.wide] at h, callsIn_wide.2 (hcall.mono ?_)⟩
 ·exact run_enterLoop_outer fn a.tmps ps assign body
 ·simp only [resolve, rangeCall, g1, Deferred.ofValue]
  simp [Act.eval]
 ·simp [invoke, run_callFunc O hk]
 ·rintro e w3 ⟨re, σ3, cx3, rfl, r1, r2, r3, r4⟩
  cases re with
  | pan x => exact r1.elim
  | ret x =>
   cases e <;> simp only [ReOK] at r2
   simp only [rangeR] at r1
   split at r1
   ·rename_i l' st pend n' fr' ps' as' bd' hat
    obtain ⟨hst, hp⟩ := r1
    obtain ⟨m3, fn3, tmps3, dl3, p1, p2, p3, p4⟩ := r3.loopAt hat
    have hs03 := hs02.trans r4
    have hl : l' = cx.w.heap.size + 1 := by
     have hmu : (c1.add w2 σ.length m).mu σ.length = some m := by simp [Cx.add]
     have hA2 : (c1.add w2 σ.length m).A σ.length := by simp [Cx.add]
     obtain ⟨m', e1, e2, e3⟩ := r4.ext.mu σ.length hA2 m3 p1
     rw [hmu] at e1; simp only [Option.some.injEq] at e1; subst e1
     have hg3 : m3.gen = 0 := by
      obtain ⟨blk, h1, h2, h3, h4⟩ := r3.dom _ _ p1
      rw [Store.at_some hat] at h1; simp only [Option.some.injEq] at h1; subst h1
      exact h4.1
     have := e3 (by rw [hg3])
     rw [← p2, this]
    subst hl
    obtain ⟨cx4, d1, d2, d3⟩ := r3.loopSet (st' := .exhausted) (pend' := pend) hat p1 p2 p3 p4
    have hst' : st ≠ .busy := by simpa using hst
    refine ⟨pend, cx4.w, by rw [d1]; exact run_endLoop p3 hst', ?_⟩
    obtain ⟨n5, s5⟩ := d2.still σ.length
    have hs05 : Step cx (cx4.still σ.length) := (hs03.trans d3).trans s5
    have eσ : (σ3.set σ.length (some (.loop (cx.w.heap.size + 1) .exhausted pend n' fr' ps' as' bd'))).set σ.length none = σ3.set σ.length none := by rw [List.set_set]
    rw [eσ] at n5
    have hd' : DSR E n0 (cx4.still σ.length) (cx4.still σ.length).w.heap.size (.mark :: ds) ([{ target := .collected cx.w.heap.size, args := #[] }] ++ a.defers) := by
     have hF1 : c1.F cx.w.heap.size := .inr rfl
     have base : DSR E n0 c1 (cx.w.heap.size + 1) (.mark :: ds) ({ target := .collected cx.w.heap.size, args := #[] } :: a.defers) :=
      .mark cx.w.heap.size h0 (by omega) hF1 (fun hI => by have := hn.immI _ hI; omega) (by show (cx.w.alloc _).heap[cx.w.heap.size]? = _; exact World.alloc_heap_new cx.w _) (hd.step hn hs1)
     have s15 : Step c1 (cx4.still σ.length) := ((hs2.trans r4).trans d3).trans s5
     exact (base.step hn1 s15).hi (by have := s15.size; omega)
    have hf5 : FR E (cx4.still σ.length) N fr a.tmps := hf.step hs05
    cases pend with
    | none =>
     exact ⟨.normal, fr, _, cx4.still σ.length, .mark :: ds, rfl, hp, trivial, n5, hf5, hd', hs05⟩
    | some c =>
     exact wpIn_wide.2 (wp_mono (hp n0 (cx4.still σ.length) { a with defers := [{ target := .collected cx.w.heap.size, args := #[] }] ++ a.defers } (Nat.le_trans h0 hs05.size) n5 hf5 hd') fun e a w => LiftD.step hs05)
   ·exact r1.elim
def CD (E : Env) (g : FuncId) (args : List PV) (σ : Store) (R : Re → Store → Prop) : Prop :=
 ∀ (cx : Cx) (vs : Array Value), Now E cx σ → VL E cx args vs.toList → ∀ u, CallsDIn Fence.wide 0 E.P g vs u cx.w fun e u' w' => u' = u ∧ ∃ re σ' cx', cx'.w = w' ∧ R re σ' ∧ ReOK E cx' re e ∧ Now E cx' σ' ∧ Step cx cx'
theorem CD_bodyk (O : E.OK) {f : FuncId} {fn : Func} {c : Code} {args : List PV} {R : Re → Store → Prop} (hfn : E.P.funcs[f]? = some fn) (hb : fn.body = some c) (hl : args.length ≤ fn.ntmps)
  (h : ∀ R' : Re → Store → Prop, (∀ re σ, R re σ → R' re σ) → T E fn.ntmps σ.length c (bodyQ E fn.results.toList R') (Fr.args 0 args) σ) : CD E f args σ R := fun cx vs hn hv u =>
 callsDIn_of_wp hfn hb trivial (body_ok O hl (h R fun _ _ h => h) cx vs hn hv none)
def LvD (E : Env) (rs : List ResultVar) (R : Re → Store → Prop) : List DV → Fr → Store → Prop
 | [], fr, σ => ∃ xs, sRes E fr σ rs = some xs ∧ R (.ret (oneOf xs)) σ
 | .mark :: ds, fr, σ => LvD E rs R ds fr σ
 | .call g vs :: ds, fr, σ => E.fk g = true ∧ CD E g vs σ fun re σ' => match re with | .ret _ => LvD E rs R ds fr σ' | .pan _ => False
def bodyD (E : Env) (rs : List ResultVar) (R : Re → Store → Prop) : PostD := fun ds e fr σ =>
 match e with
 | .normal => LvD E rs R ds fr σ
 | .ret => LvD E rs R ds fr σ
 | _ => False
theorem res_ok (O : E.OK) {fn : Func} {cx : Cx} {tmps : Array Value} (hn : Now E cx σ) (hf : FR E cx N fr tmps) {xs : List PV} (hx : sRes E fr σ fn.results.toList = some xs) : ∃ v, (results fn tmps).run E.P cx.w = .ok v cx.w ∧ V E cx (oneOf xs) v := by
 obtain ⟨us, i1, i2⟩ := results_ok O hn hf _ _ hx
 have hm : (fn.results.mapM (resOne tmps)).run E.P cx.w = .ok us.toArray cx.w := by
  rw [← Array.toArray_toList (xs := fn.results), List.mapM_toArray]
  simp only [Sem.run_map, i1, Result.andThen_ok]
 have hl := i2.len
 have hr : (results fn tmps).run E.P cx.w = .ok (if h : us.toArray.size = 1 then us.toArray[0] else .tuple us.toArray) cx.w := by
  rw [results_eq, Sem.run_bind, hm]; rfl
 refine ⟨_, hr, ?_⟩
 match xs, us, i2, hl with
 | [], [], i2, _ => exact .tup i2 .nil
 | [x], [u], i2, _ => exact i2
 | x :: y :: zs, u :: v :: ws, i2, _ => exact VL.tup (us := (u :: v :: ws).toArray) i2 .nil
theorem CallsDIn.mono' {F : Fence} {n : Nat} {P : Program} {f : FuncId} {args : Array Value} {u : FrameMode} {w : World} {R R' : Ending → FrameMode → World → Prop} (h : CallsDIn F n P f args u w R) (hr : ∀ e u' w', R e u' w' → R' e u' w') : CallsDIn F n P f args u w R' :=
 ⟨h.1, fun c cs hu hroom => let ⟨e, u', w', fr, r, rest⟩ := h.2 c cs hu hroom; ⟨e, u', w', fr, hr _ _ _ r, rest⟩⟩
theorem leave_ok (O : E.OK) {fn : Func} {R : Re → Store → Prop} {cx0 : Cx} {n0 : Nat} {tmps : Array Value} (h0 : ∀ k, cx0.F k → k < n0) (hI0 : ∀ k, cx0.I k → k < n0) : ∀ (ds : List DV) (l : List Deferred) (hi : Nat) (fr : Fr) (σ : Store) (cx : Cx), LvD E fn.results.toList R ds fr σ → Now E cx σ → FR E cx N fr tmps →
  DSR E n0 cx hi ds l → Step cx0 cx → LeavesInM Fence.wide 0 E.P fn tmps (fun e w' => ∃ re σ' cx', cx'.w = w' ∧ R re σ' ∧ ReOK E cx' re e ∧ Now E cx' σ' ∧ Step cx0 cx') l .returning cx.w
 | [], l, hi, fr, σ, cx, h, hn, hf, hd, hs => by
  cases hd
  obtain ⟨xs, hx, hR⟩ := h
  obtain ⟨v, r1, r2⟩ := res_ok O hn hf hx
  exact ⟨v, r1, .ret _, σ, cx, rfl, hR, r2, hn, hs⟩
 | .mark :: ds, _, hi, fr, σ, cx, h, hn, hf, .mark r k0 kr kF kI kw ks, hs => by
  refine ⟨by simp, .inl ⟨r, cx.w.putObj r (.deferred none), rfl, run_takeDeferred kw, ?_⟩⟩
  have hrs : r < cx.w.heap.size := hn.imm r kF
  let c2 : Cx := { cx with w := cx.w.putObj r (.deferred none), F := fun k => cx.F k ∧ k ≠ r }
  have hold : ∀ k, k ≠ r → c2.w.heap[k]? = cx.w.heap[k]? := fun k hk => World.putObj_heap_other hk
  have hext : Ext cx c2 := ⟨fun _ h => h, fun k hk => hold k (fun e => kI (e ▸ hk)), fun _ h => h, fun _ _ m h => ⟨m, h, Nat.le_refl _, fun _ => rfl⟩⟩
  have hn2 : Now E c2 σ := ⟨hn.top, hn.A, fun k h => ⟨hn.IF k h, fun e => kI (e ▸ h)⟩, fun k h => by simpa [c2] using hn.imm k h.1, fun b m hm => by
   obtain ⟨blk, h1, h2, h3, h4⟩ := hn.dom b m hm
   exact ⟨blk, h1, by simpa [c2] using h2, fun h => h3 h.1, h4.ext hext (hold _ fun e => h3 (e ▸ kF))⟩, hn.live, hn.inj, hn.base⟩
  have hs2 : Step cx0 c2 := ⟨hs.ext.trans hext, fun k h => ⟨hs.F k h, fun e => by have := h0 k h; omega⟩, fun k h => (hold k (fun e => by have := h0 k h; omega)).trans (hs.keeps k h), hs.grow, hs.muold, hs.top, hs.new, by simpa [c2] using hs.size, hs.os, hs.tape, hs.output⟩
  have ks2 : ∀ {hi : Nat} {ds : List DV} {l : List Deferred}, DSR E n0 cx hi ds l → hi ≤ r → DSR E n0 c2 hi ds l := fun {hi ds l} h => by
   induction h with
   | nil => intro _; exact .nil
   | call us ws hv _ ih => intro hle; exact .call us ws (hv.ext hext) (ih hle)
   | mark r' a1 a2 a3 a4 a5 _ ih => intro hle; exact .mark r' a1 a2 ⟨a3, by omega⟩ a4 ((hold r' (by omega)).trans a5) (ih (by omega))
  exact leave_ok O h0 hI0 ds _ r fr σ c2 h hn2 ⟨hf.1, fun t x ht => ⟨(hf.2 t x ht).1, (hf.2 t x ht).2.ext hext⟩⟩ (ks2 ks (Nat.le_refl _)) hs2
 | .call g vs :: ds, _, hi, fr, σ, cx, h, hn, hf, .call us ws hv ks, hs => by
  obtain ⟨hg, hc⟩ := h
  refine ⟨by simp, .inr ⟨fun h => by simp [Fence.wide] at h, .func g, ws, g, us ++ ws, rfl, by simp [invoke, run_callFunc O hg], fun _ _ => trivial, ?_⟩⟩
  have hcall := hc cx (us ++ ws) hn hv .returning
  refine CallsDIn.mono' hcall ?_
  rintro e u' w' ⟨rfl, re, σ', cx', rfl, r1, r2, r3, r4⟩
  cases re with
  | pan x => exact r1.elim
  | ret x =>
   cases e <;> simp only [ReOK] at r2
   exact leave_ok O h0 hI0 ds _ hi fr σ' cx' r1 r3 (hf.step r4) (ks.step hn r4) (hs.trans r4)
theorem C_bodyD (O : E.OK) {f : FuncId} {fn : Func} {c : Code} {args : List PV} {R : Re → Store → Prop} (hfn : E.P.funcs[f]? = some fn) (hb : fn.body = some c) (hl : args.length ≤ fn.ntmps)
  (h : TZ E fn.ntmps c (bodyD E fn.results.toList R) [] (Fr.args 0 args) σ) : C E f args σ R := fun cx vs hn hv => by
 have hlen := hv.len
 have hsz : vs.size = args.length := by simpa using hlen.symm
 have hn1 : Now E (cx.label σ.length) σ := hn.label (Nat.le_refl _)
 have hv1 := hv.ext (Ext.label cx σ.length)
 have hf1 : FR E (cx.label σ.length) fn.ntmps (Fr.args 0 args) (vs ++ Array.replicate (fn.ntmps - vs.size) undef) := by
  refine ⟨by simp; omega, fun t x ht => ?_⟩
  obtain ⟨_, h1⟩ := Fr.get_args 0 args t x ht
  simp only [Nat.sub_zero] at h1
  have hlt := getElem?_lt h1
  obtain ⟨v, k1, k2⟩ := hv1.nth t x h1
  refine ⟨by omega, ?_⟩
  have : (vs ++ Array.replicate (fn.ntmps - vs.size) undef).getD t undef = v := by
   simp only [Array.getD_eq_getD_getElem?]
   rw [Array.getElem?_append_left (by omega)]
   have : vs[t]? = some v := by simpa using k1
   simp [this]
  rw [this]; exact k2
 have hw := h cx.w.heap.size (cx.label σ.length) { tmps := vs ++ Array.replicate (fn.ntmps - vs.size) undef, defers := [] } (Nat.le_refl _) hn1 hf1 .nil
 refine callsIn_wide.1 (callsIn_of_wp_marks (F := Fence.wide) (n := 0) hfn hb trivial (wpIn_wide.2 (wp_mono hw ?_)))
 rintro e a w ⟨ex, fr', σ', cx', ds', rfl, h2, h3, h4, h5, h6, h7⟩
 have fin : LvD E fn.results.toList R ds' fr' σ' → LeavesInM Fence.wide 0 E.P fn a.tmps (fun e w' => ∃ re σ' cx', cx'.w = w' ∧ R re σ' ∧ ReOK E cx' re e ∧ Now E cx' σ' ∧ Step cx cx') a.defers .returning cx'.w := fun hL => by
  have := leave_ok (N := fn.ntmps) (R := R) O (cx0 := cx.label σ.length) (n0 := cx.w.heap.size) (fun k hk => hn.imm k hk) (fun k hk => hn.immI k hk) ds' a.defers _ fr' σ' cx' hL h4 h5 h6 h7
  refine lv_mono ?_ a.defers .returning cx'.w this
  rintro e w' ⟨re, σ', cx', rfl, r1, r2, r3, r4⟩
  have htop : cx'.top = σ.length := r4.top
  refine ⟨re, σ', cx'.label cx.top, rfl, r1, ?_, r3.label (by have := r3.top; have := hn.top; omega), r4.relabel hn.top⟩
  cases re <;> cases e <;> simp only [ReOK] at r2 ⊢
  ·exact r2.ext (Ext.label _ _)
  ·obtain ⟨v, e1, e2⟩ := r2; exact ⟨v, e1, e2.ext (Ext.label _ _)⟩
 cases ex <;> cases e <;> simp only [ExOK] at h3 <;> simp only [bodyD] at h2
 ·exact fin h2
 ·exact fin h2
where
 lv_mono {F : Fence} {n : Nat} {P : Program} {fn : Func} {tmps : Array Value} {R R' : Ending → World → Prop} (hr : ∀ e w, R e w → R' e w) : ∀ (ds : List Deferred) (u : FrameMode) (w : World), LeavesInM F n P fn tmps R ds u w → LeavesInM F n P fn tmps R' ds u w
  | [], u, w, h => by
   cases u with
   | run => exact h
   | returning => obtain ⟨v, h1, h2⟩ := h; exact ⟨v, h1, hr _ _ h2⟩
   | panicking ch => exact hr _ _ h
  | d :: ds, u, w, h => by
   obtain ⟨h1, h2⟩ := h
   refine ⟨h1, ?_⟩
   rcases h2 with ⟨r, w', a1, a2, a3⟩ | ⟨a1, fv, cap, f, args, a2, a3, a4, a5⟩
   ·exact .inl ⟨r, w', a1, a2, lv_mono hr ds u w' a3⟩
   ·refine .inr ⟨a1, fv, cap, f, args, a2, a3, a4, CallsDIn.mono' a5 fun e u' w' he => ?_⟩
    cases e with
    | returned v => exact lv_mono hr ds _ _ he
    | panicked ch => exact lv_mono hr ds _ _ he
    | outgrown => exact hr _ _ he
theorem C_bodyDk (O : E.OK) {f : FuncId} {fn : Func} {c : Code} {args : List PV} {R : Re → Store → Prop} (hfn : E.P.funcs[f]? = some fn) (hb : fn.body = some c) (hl : args.length ≤ fn.ntmps)
  (h : ∀ R' : Re → Store → Prop, (∀ re σ, R re σ → R' re σ) → TZ E fn.ntmps c (bodyD E fn.results.toList R') [] (Fr.args 0 args) σ) : C E f args σ R := C_bodyD O hfn hb hl (h R fun _ _ h => h)
def deferK (E : Env) (ops : Array Oper) (Q : PostD) (ds : List DV) (os : List Oper) (fr : Fr) (σ : Store) : Prop :=
 match os with
 | o :: os => match o.op, o.guard with
  | .defer c, none => (match sCallee E fr c with
   | some (g, vs) => RF E ops (Q (.call g vs :: ds)) (Q (.call g vs :: ds) .normal) os (Fr.put fr o.dst (.tup [])) σ
   | none => False)
  | _, _ => False
 | [] => False
end
section
variable {E : Env} {N : Nat} {Q : Post} {fr : Fr} {σ : Store}
end
def extR (ids : List Nat) (L : Nat) (b : Nat) : Nat := if b < ids.length then nth ids b else L + (b - ids.length)
def extS (ids : List Nat) (σ σ' : Store) : Store := putAll σ ids (renStore (extR ids σ.length) (σ'.take ids.length)) ++ renStore (extR ids σ.length) (σ'.drop ids.length)
def extRe (ids : List Nat) (σ : Store) (R : Re → Store → Prop) (re : Re) (σ' : Store) : Prop :=
 match re with
 | .ret x => R (.ret (ren (extR ids σ.length) x)) (extS ids σ σ')
 | .pan x => R (.pan (ren (extR ids σ.length) x)) (extS ids σ σ')
mutual
theorem allB_true : ∀ x : PV, allB (fun _ => true) x = true
 | .fn f a b => by simp [allB, allL_true a, allL_true b]
 | .iface t x => by simp [allB, allB_true x]
 | .agg t fs => by simp [allB, allL_true fs]
 | .tup vs => by simp [allB, allL_true vs]
 | .laddr x => by simp [allB, allB_true x]
 | .undef | .bool _ | .int _ _ | .str _ | .nilp | .ptr .. | .nils | .lit _ | .ref .. | .nilm | .map _ | .nilf | .nili => by simp [allB]
theorem allL_true : ∀ xs : List PV, allL (fun _ => true) xs = true
 | [] => rfl
 | x :: xs => by simp [allL, allB_true x, allL_true xs]
end
section
variable {E : Env}
end
def frzP (k : Nat → Bool) (σ : Store) : Nat → PV → Option PV
 | 0, _ => none
 | n + 1, x => match x with
  | .nils => some (.lit [])
  | .ptr b g i p => if k b = true then some (.ptr b g i p) else (match p, Store.at σ b with
   | [], some (.cells ty g' xs) => if g' = g then (match xs[i]? with | some e => (frzP k σ n e).map .laddr | none => none) else none
   | _, _ => none)
  | .ref b g off len => if k b = true then some (.ref b g off len) else (match Store.at σ b with
   | some (.cells ty g' xs) => if g' = g ∧ off + len ≤ xs.length then (match ((xs.drop off).take len).mapM (frzP k σ n) with | some ys => if pureL ys then some (.lit ys) else none | none => none) else none
   | _ => none)
  | .map b => if k b = true then some (.map b) else none
  | .agg t fs => (fs.mapM (frzP k σ n)).map (.agg t)
  | .fn f a b => match a.mapM (frzP k σ n), b.mapM (frzP k σ n) with | some a', some b' => some (.fn f a' b') | _, _ => none
  | .tup _ => none
  | .undef => none
  | .iface t y => if allB k y then some (.iface t y) else none
  | .laddr y => if allB k y then some (.laddr y) else none
  | x => some x
def frzPT (k : Nat → Bool) (σ : Store) : PV → Option PV
 | .tup vs => (vs.mapM (frzP k σ 6)).map .tup
 | x => frzP k σ 6 x
def Cx.frzP (c : Cx) (k : Nat → Bool) : Cx := { c with I := fun j => c.I j ∨ ∃ b m, k b = false ∧ c.mu b = some m ∧ m.blk = j, F := fun j => c.F j ∨ ∃ b m, k b = false ∧ c.mu b = some m ∧ m.blk = j, mu := fun b => if k b = true then c.mu b else none }
section
variable {E : Env}
theorem Cx.frzP_mu {c : Cx} {k : Nat → Bool} {b : Nat} {m : MB} (h : (c.frzP k).mu b = some m) : k b = true ∧ c.mu b = some m := by
 simp only [Cx.frzP] at h
 split at h
 ·exact ⟨by assumption, h⟩
 ·simp at h
theorem Cx.frzP_ext (c : Cx) (k : Nat → Bool) : Ext c (c.frzP k) := ⟨fun _ h => .inl h, fun _ _ => rfl, fun _ h => h, fun b _ m h => ⟨m, (Cx.frzP_mu h).2, Nat.le_refl _, fun _ => rfl⟩⟩
theorem frzP_lower {c : Cx} {k : Nat → Bool} {x : PV} {cs : List Value} (h : VC E c x cs) (hp : allB k x = true) : VC E (c.frzP k) x cs := h.ext (Cx.frzP_ext c k)
theorem fits_frzP {k : Nat → Bool} {σ : Store} {n : Nat} {x y : PV} {T : TypeId} (h : frzP k σ n x = some y) (hf : fits E T x = true) : fits E T y = true := by
 cases n with
 | zero => simp [frzP] at h
 | succ n =>
  unfold frzP at h
  split at h
  ·simp only [Option.some.injEq] at h; subst h; simpa [fits] using hf
  ·split at h
   ·simp only [Option.some.injEq] at h; subst h; exact hf
   ·split at h
    ·split at h
     ·split at h
      ·obtain ⟨ys, _, rfl⟩ := Option.map_eq_some_iff.1 h; simpa [fits] using hf
      ·simp at h
     ·simp at h
    ·simp at h
  ·split at h
   ·simp only [Option.some.injEq] at h; subst h; exact hf
   ·split at h
    ·split at h
     ·split at h
      ·split at h
       ·simp only [Option.some.injEq] at h; subst h; simpa [fits] using hf
       ·simp at h
      ·simp at h
     ·simp at h
    ·simp at h
  ·split at h
   ·simp only [Option.some.injEq] at h; subst h; exact hf
   ·simp at h
  ·obtain ⟨ys, _, rfl⟩ := Option.map_eq_some_iff.1 h; simpa [fits] using hf
  ·split at h
   ·simp only [Option.some.injEq] at h; subst h; simpa [fits] using hf
   ·simp at h
  ·simp at h
  ·simp at h
  ·split at h
   ·simp only [Option.some.injEq] at h; subst h; exact hf
   ·simp at h
  ·split at h
   ·simp only [Option.some.injEq] at h; subst h; exact hf
   ·simp at h
  ·simp only [Option.some.injEq] at h; subst h; exact hf
theorem frzP_agg {k : Nat → Bool} {σ : Store} {n : Nat} {x : PV} {t : TypeId} {fs : List PV} (h : frzP k σ n x = some (.agg t fs)) : ∃ gs, x = .agg t gs := by
 cases n with
 | zero => simp [frzP] at h
 | succ n =>
  cases x <;> simp only [frzP] at h <;> first
   | exact ⟨_, by obtain ⟨ys, _, e⟩ := Option.map_eq_some_iff.1 h; simp only [PV.agg.injEq] at e; rw [e.1]⟩
   | (simp at h; done)
   | (exfalso; split at h <;> first
     | (simp at h; done)
     | (split at h <;> first
       | (simp at h; done)
       | (split at h <;> first
         | (simp at h; done)
         | (split at h <;> first
           | (simp at h; done)
           | (simp [Option.map_eq_some_iff] at h; done)
           | (split at h <;> simp at h)))))
theorem VL_frzP {c c' : Cx} {k : Nat → Bool} {σ : Store} {n : Nat} (hf : ∀ x y cs, VC E c x cs → frzP k σ n x = some y → VC E c' y cs) : ∀ {xs ys : List PV} {vs : List Value}, VL E c xs vs → xs.mapM (frzP k σ n) = some ys → VL E c' ys vs
 | _, ys, _, .nil, h => by simp at h; subst h; exact .nil
 | _, ys, _, .undef hs, h => by
  simp only [List.mapM_cons] at h
  obtain ⟨y, hy, h⟩ := Option.bind_eq_some_iff.1 h
  cases n <;> simp [frzP] at hy
 | _, ys, _, .one (x := x) h1 hnx hv hs, h => by
  simp only [List.mapM_cons] at h
  obtain ⟨y, hy, h⟩ := Option.bind_eq_some_iff.1 h
  obtain ⟨zs, hzs, h⟩ := Option.bind_eq_some_iff.1 h
  simp only [Option.pure_def, Option.some.injEq] at h; subst h
  refine .one h1 (fun t fs e => ?_) (hf _ _ _ hv hy) (VL_frzP hf hs hzs)
  subst e
  obtain ⟨gs, rfl⟩ := frzP_agg hy
  exact hnx _ _ rfl
 | _, ys, _, .agg hv hs, h => by
  simp only [List.mapM_cons] at h
  obtain ⟨y, hy, h⟩ := Option.bind_eq_some_iff.1 h
  obtain ⟨zs, hzs, h⟩ := Option.bind_eq_some_iff.1 h
  simp only [Option.pure_def, Option.some.injEq] at h; subst h
  have := hf _ _ _ hv hy
  cases n with
  | zero => simp [frzP] at hy
  | succ n =>
   simp only [frzP] at hy
   obtain ⟨fs', _, rfl⟩ := Option.map_eq_some_iff.1 hy
   exact .agg this (VL_frzP hf hs hzs)
 | _, ys, _, .tup hv hs, h => by
  simp only [List.mapM_cons] at h
  obtain ⟨y, hy, h⟩ := Option.bind_eq_some_iff.1 h
  cases n <;> simp [frzP] at hy
theorem frzP_VC (O : E.OK) {c : Cx} {σ : Store} (k : Nat → Bool) (hn : Now E c σ) : ∀ (n : Nat) (x y : PV) (cs : List Value), VC E c x cs → frzP k σ n x = some y → VC E (c.frzP k) y cs
 | 0, x, y, cs, h, hf => by simp [frzP] at hf
 | n + 1, x, y, cs, h, hf => by
  have ih := frzP_VC O k hn n
  unfold frzP at hf
  split at hf
  ·simp only [Option.some.injEq] at hf; subst hf
   cases h with | nils a => exact .lit0 a 0
  ·rename_i b g i p
   split at hf
   ·rename_i hb
    simp only [Option.some.injEq] at hf; subst hf
    exact frzP_lower h (by simpa [allB] using hb)
   ·rename_i hb
    split at hf
    ·rename_i ty g' xs hat
     split at hf
     ·rename_i hg; subst hg
      split at hf
      ·rename_i e he
       obtain ⟨e', he', rfl⟩ := Option.map_eq_some_iff.1 hf
       cases h with
       | ptr _ _ _ _ v hv1 hA hle hr =>
        obtain ⟨m, ca, el, fz, ds, cs, h1, h2, h3, h4, h5, h6, h7, h8, h9, h10, h11, h12, h13⟩ := hn.place O (V_one (.ptr b g' i [] v hv1 hA hle hr) (by simp)) hat he
        subst h13
        simp only [pathOff, Nat.add_zero]
        have hw := LW.win h7 h12
        exact .laddr e' m.blk _ cs ca el fz (.inr ⟨b, m, by simpa using hb, h1, rfl⟩) h4 (ih _ _ _ h11 he') hw
      ·simp at hf
     ·simp at hf
    ·simp at hf
  ·rename_i b g off len
   split at hf
   ·rename_i hb
    simp only [Option.some.injEq] at hf; subst hf
    exact frzP_lower h (by simpa [allB] using hb)
   ·rename_i hb
    split at hf
    ·rename_i ty g' xs hat
     split at hf
     ·rename_i hc
      obtain ⟨rfl, hl⟩ := hc
      split at hf
      ·rename_i ys hys
       split at hf
       ·rename_i hp
        simp only [Option.some.injEq] at hf; subst hf
        cases h with
        | ref _ _ _ _ v h1 hA hle hr =>
         obtain ⟨m, ca, el, fz, cs, j1, j2, j3, j4, j5, j6, j7, j8, j9⟩ := hn.blk hat
         obtain ⟨a, cap, rfl, hcap, hh⟩ := hr m j1 j2
         obtain ⟨hlen, _⟩ := mapM_some hys
         have hxl : ((xs.drop off).take len).length = len := by simp; omega
         have hyl : ys.length = len := by rw [hlen, hxl]
         rcases hh with rfl | ⟨rfl, hfit⟩
         ·have h0 : len = 0 := by omega
          subst h0
          have : ys = [] := List.eq_nil_of_length_eq_zero hyl
          subst this
          exact .lit0 a 0
         ·have v1 : VR E c ty xs cs := j6
          have v2 := (v1.drop O.toFine off).take O.toFine len
          have v3 : VCs E (c.frzP k) (List.replicate ((xs.drop off).take len).length ty) ys _ := VCs.frz (fun x y cs => ih x y cs) (fun T x y h hf => fits_frzP h hf) v2 hys
          have hw2 := LW.win j7 ((LW_drop cs (off * E.size ty)).trans (LW_take (cs.drop (off * E.size ty)) (len * E.size ty)))
          simp only [Nat.add_zero] at hw2
          have v4 : VCs E (c.frzP k).pure (List.replicate ys.length ty) ys (List.take (len * E.size ty) (List.drop (off * E.size ty) cs)) := by
           rw [hlen]
           exact v3.lower (n := 0) (belowL_of_pure 0 ys hp) (fun _ h => h) (fun _ _ => rfl) (fun _ _ h => absurd h (by omega)) (fun _ _ h => by simp [Cx.pure] at h)
          have := VC.lit (E := E) (c := c.frzP k) ys ty m.blk (m.base + off * E.size ty) cap _ ca el fz (.inr ⟨b, m, by simpa using hb, j1, rfl⟩) j4 v4 hw2 (by omega)
          rw [hyl] at this; rw [j3]; exact this
       ·simp at hf
      ·simp at hf
     ·simp at hf
    ·simp at hf
  ·split at hf
   ·rename_i hb
    simp only [Option.some.injEq] at hf; subst hf
    exact frzP_lower h (by simpa [allB] using hb)
   ·simp at hf
  ·obtain ⟨ys, hys, rfl⟩ := Option.map_eq_some_iff.1 hf
   cases h with
   | agg _ _ _ h => exact .agg _ _ _ (VCs.frz (fun x y cs => ih x y cs) (fun T x y h hf => fits_frzP h hf) h hys)
  ·split at hf
   ·rename_i a' b' h1 h2
    simp only [Option.some.injEq] at hf; subst hf
    cases h with
    | fn _ _ _ vs us k1 k2 => exact .fn _ _ _ vs us (VL_frzP ih k1 h1) (VL_frzP ih k2 h2)
   ·simp at hf
  ·simp at hf
  ·simp at hf
  ·split at hf
   ·rename_i hp
    simp only [Option.some.injEq] at hf; subst hf
    exact frzP_lower h (by simpa [allB] using hp)
   ·simp at hf
  ·split at hf
   ·rename_i hp
    simp only [Option.some.injEq] at hf; subst hf
    exact frzP_lower h (by simpa [allB] using hp)
   ·simp at hf
  ·rename_i h1 h2 h3 h4 h5 h6 h7 h8 h9 h10
   simp only [Option.some.injEq] at hf; subst hf
   refine frzP_lower h ?_
   cases x <;> first | rfl | exact (h1 rfl).elim | exact (h2 _ _ _ _ rfl).elim | exact (h3 _ _ _ _ rfl).elim | exact (h4 _ rfl).elim | exact (h5 _ _ rfl).elim | exact (h6 _ _ _ rfl).elim | exact (h7 _ rfl).elim | exact (h8 rfl).elim | exact (h9 _ _ rfl).elim | exact (h10 _ rfl).elim
theorem frzPT_V (O : E.OK) {c : Cx} {σ : Store} (k : Nat → Bool) (hn : Now E c σ) {x y : PV} {v : Value} (h : V E c x v) (hf : frzPT k σ x = some y) : V E (c.frzP k) y v := by
 unfold frzPT at hf
 split at hf
 ·obtain ⟨ys, hys, rfl⟩ := Option.map_eq_some_iff.1 hf
  cases h with
  | one h1 hnx hv hs => cases hv
  | tup hv hs => exact .tup (VL_frzP (frzP_VC O k hn 6) hv hys) .nil
 ·exact VL_frzP (frzP_VC O k hn 6) h (by simp [hf])
inductive KBlk (p : Nat → Bool) (σ : Store) : Blk → Blk → Prop
 | cells {ty g : Nat} {xs ys : List PV} (h : xs.mapM (frzP p σ 6) = some ys) : KBlk p σ (.cells ty g xs) (.cells ty g ys)
 | same {b : Blk} : KBlk p σ b b
def KOne (p : Nat → Bool) (σ : Store) (i : Nat) (x y : Option Blk) : Prop :=
 match x with
 | some b => if p i = true then (∃ b', y = some b' ∧ KBlk p σ b b') else y = none
 | none => y = none
def KeepS (p : Nat → Bool) (σ : Store) : Nat → Store → Store → Prop
 | _, [], [] => True
 | i, x :: s, y :: t => KOne p σ i x y ∧ KeepS p σ (i + 1) s t
 | _, _, _ => False
theorem KeepS.len {p : Nat → Bool} {σ : Store} : ∀ {i : Nat} {s t : Store}, KeepS p σ i s t → t.length = s.length
 | _, [], [], _ => rfl
 | _, _ :: _, _ :: _, h => by simp [KeepS.len h.2]
theorem KeepS.at {p : Nat → Bool} {σ : Store} : ∀ {i : Nat} {s t : Store}, KeepS p σ i s t → ∀ {j : Nat} {x y : Option Blk}, s[j]? = some x → t[j]? = some y → KOne p σ (i + j) x y
 | i, [], [], _, j, x, y, h1, _ => by simp at h1
 | i, a :: s, b :: t, h, 0, x, y, h1, h2 => by
  simp only [List.getElem?_cons_zero, Option.some.injEq] at h1 h2; subst h1; subst h2; exact h.1
 | i, a :: s, b :: t, h, j + 1, x, y, h1, h2 => by
  have := KeepS.at h.2 (j := j) (x := x) (y := y) (by simpa using h1) (by simpa using h2)
  rwa [Nat.add_assoc, Nat.add_comm 1 j] at this
theorem BlkOK.keep (O : E.OK) {c : Cx} {σ : Store} (p : Nat → Bool) (hn : Now E c σ) {m : MB} {b b' : Blk} (h : BlkOK E c m b) (hk : KBlk p σ b b') : BlkOK E (c.frzP p) m b' := by
 cases hk with
 | same => exact h.ext (Cx.frzP_ext c p) rfl
 | cells hys =>
  obtain ⟨k1, k2, ca, e, fz, cs, k3, k4, k5, k6, k7, k8⟩ := h
  obtain ⟨hlen, _⟩ := mapM_some hys
  refine ⟨k1, k2, ca, e, fz, cs, k3, k4, ?_, k6, k7, k8⟩
  rw [hlen]
  exact VCs.frz (fun x y cs => frzP_VC O p hn 6 x y cs) (fun T x y h hf => fits_frzP h hf) k5 hys
theorem Now.keep (O : E.OK) {c : Cx} {σ σ' : Store} (p : Nat → Bool) (hn : Now E c σ) (hk : KeepS p σ 0 σ σ') : Now E (c.frzP p) σ' ∧ Step c (c.frzP p) := by
 have hl := hk.len
 have hat : ∀ b x y, σ[b]? = some x → σ'[b]? = some y → KOne p σ b x y := fun b x y h1 h2 => by have := hk.at h1 h2; rwa [Nat.zero_add] at this
 have hget : ∀ b, b < σ.length → ∃ y, σ'[b]? = some y := fun b hb => ⟨σ'[b]'(by rw [hl]; exact hb), by rw [List.getElem?_eq_getElem]⟩
 refine ⟨⟨by rw [hl]; exact hn.top, fun b hb => by rw [hl]; exact hn.A b hb, fun k h => h.imp (hn.IF k) id, fun k h => ?_, fun b m hm => ?_, fun b blk hb => ?_, fun b b' m m' h h' e => hn.inj b b' m m' (Cx.frzP_mu h).2 (Cx.frzP_mu h').2 e, fun b m h => hn.base b m (Cx.frzP_mu h).2⟩,
  ⟨Cx.frzP_ext c p, fun _ h => .inl h, fun _ _ => rfl, fun k h => ?_, fun b m h => .inr ⟨b, m, (Cx.frzP_mu h).2, rfl⟩, rfl, fun _ h => .inl h, Nat.le_refl _, rfl, rfl, rfl⟩⟩
 ·rcases h with h | ⟨b, m, _, h1, h2⟩
  ·exact hn.imm k h
  ·obtain ⟨_, _, h3, _⟩ := hn.dom b m h1
   exact h2 ▸ h3
 ·obtain ⟨hp, hm'⟩ := Cx.frzP_mu hm
  obtain ⟨blk, h1, h2, h3, h4⟩ := hn.dom b m hm'
  obtain ⟨y, hy⟩ := hget b (getElem?_lt h1)
  have h5 := hat b _ _ h1 hy
  simp only [KOne, hp, if_true] at h5
  obtain ⟨b', rfl, h6⟩ := h5
  refine ⟨b', hy, h2, ?_, h4.keep O p hn h6⟩
  rintro (h | ⟨b2, m2, k0, k1, k2⟩)
  ·exact h3 h
  ·have := hn.inj _ _ _ _ k1 hm' k2
   subst this; rw [hp] at k0; cases k0
 ·have hlt : b < σ.length := by rw [← hl]; exact getElem?_lt hb
  have h1 : σ[b]? = some (σ[b]) := List.getElem?_eq_getElem hlt
  have h5 := hat b _ _ h1 hb
  cases hx : σ[b] with
  | none => rw [hx] at h5; simp [KOne] at h5
  | some blk0 =>
   rw [hx] at h5 h1
   obtain ⟨k1, m, k2⟩ := hn.live b blk0 h1
   cases hp : p b with
   | false => simp [KOne, hp] at h5
   | true => exact ⟨k1, m, by simp only [Cx.frzP, hp, if_true]; exact k2⟩
 ·rcases h with h | ⟨b, m, _, h1, h2⟩
  ·exact .inl h
  ·exact .inr (.inr ⟨b, m, h1, h2⟩)
def keepRe (R : Re → Store → Prop) (re : Re) (σ : Store) : Prop :=
 match re with
 | .ret r => ∃ p y σ', frzPT p σ r = some y ∧ KeepS p σ 0 σ σ' ∧ R (.ret y) σ'
 | .pan r => ∃ p y σ', frzPT p σ r = some y ∧ KeepS p σ 0 σ σ' ∧ R (.pan y) σ'
theorem C_keep (O : E.OK) {f : FuncId} {args : List PV} {σ : Store} {R : Re → Store → Prop} (h : C E f args σ (keepRe R)) : C E f args σ R := fun cx vs hn hv => by
 refine (h cx vs hn hv).mono ?_
 rintro e w' ⟨re, σ1, cx1, rfl, h2, h3, h4, h5⟩
 cases re with
 | ret r =>
  obtain ⟨p, y, σ2, g1, g2, g3⟩ := h2
  obtain ⟨n1, s1⟩ := h4.keep O p g2
  cases e <;> simp only [ReOK] at h3
  exact ⟨.ret y, σ2, cx1.frzP p, rfl, g3, frzPT_V O p h4 h3 g1, n1, h5.trans s1⟩
 | pan r =>
  obtain ⟨p, y, σ2, g1, g2, g3⟩ := h2
  obtain ⟨n1, s1⟩ := h4.keep O p g2
  cases e <;> simp only [ReOK] at h3
  obtain ⟨v, hch, h3⟩ := h3
  exact ⟨.pan y, σ2, cx1.frzP p, rfl, g3, ⟨v, hch, frzPT_V O p h4 h3 g1⟩, n1, h5.trans s1⟩
end
section
variable {E : Env} {σ : Store}
theorem pureL_iff : ∀ {xs : List PV}, pureL xs = true ↔ ∀ x ∈ xs, pureB x = true
 | [] => by simp [pureL]
 | x :: xs => by simp [pureL, pureL_iff (xs := xs)]
theorem frzN_row {k b g ty off len n : Nat} {xs : List PV} (hk : k ≤ b) (h : Store.at σ b = some (.cells ty g xs)) (hl : off + len ≤ xs.length) (hx : ∀ x ∈ xs, frzN k σ n x = some x) (hp : pureL xs = true) : frzN k σ (n + 1) (.ref b g off len) = some (.lit ((xs.drop off).take len)) := by
 have h1 : ((xs.drop off).take len).mapM (frzN k σ n) = some ((xs.drop off).take len) := mapM_same fun a ha => hx a (List.mem_of_mem_drop (List.mem_of_mem_take ha))
 have h2 : pureL ((xs.drop off).take len) = true := pureL_iff.2 fun x hx => pureL_iff.1 hp x (List.mem_of_mem_drop (List.mem_of_mem_take hx))
 have h3 : ¬ b < k := by omega
 simp only [frzN, h, true_and, hl, if_true, h1, h2, h3, if_false]
theorem frzP_row {k : Nat → Bool} {b g ty off len n : Nat} {xs : List PV} (hk : k b = false) (h : Store.at σ b = some (.cells ty g xs)) (hl : off + len ≤ xs.length) (hx : ∀ x ∈ xs, frzP k σ n x = some x) (hp : pureL xs = true) : frzP k σ (n + 1) (.ref b g off len) = some (.lit ((xs.drop off).take len)) := by
 have h1 : ((xs.drop off).take len).mapM (frzP k σ n) = some ((xs.drop off).take len) := mapM_same fun a ha => hx a (List.mem_of_mem_drop (List.mem_of_mem_take ha))
 have h2 : pureL ((xs.drop off).take len) = true := pureL_iff.2 fun x hx => pureL_iff.1 hp x (List.mem_of_mem_drop (List.mem_of_mem_take hx))
 simp only [frzP, h, true_and, hl, if_true, h1, h2, hk, Bool.false_eq_true, if_false]
theorem frzN_row' {k b g ty n : Nat} {xs : List PV} {len : Nat} (hk : k ≤ b) (h : Store.at σ b = some (.cells ty g xs)) (hl : len = xs.length) (hx : ∀ x ∈ xs, frzN k σ n x = some x) (hp : pureL xs = true) : frzN k σ (n + 1) (.ref b g 0 len) = some (.lit xs) := by
 subst hl
 rw [frzN_row hk h (by omega) hx hp, List.drop_zero, List.take_of_length_le (by omega)]
theorem frzP_row' {k : Nat → Bool} {b g ty n : Nat} {xs : List PV} {len : Nat} (hk : k b = false) (h : Store.at σ b = some (.cells ty g xs)) (hl : len = xs.length) (hx : ∀ x ∈ xs, frzP k σ n x = some x) (hp : pureL xs = true) : frzP k σ (n + 1) (.ref b g 0 len) = some (.lit xs) := by
 subst hl
 rw [frzP_row hk h (by omega) hx hp, List.drop_zero, List.take_of_length_le (by omega)]
theorem newRe_ret {R : Re → Store → Prop} {σ' : Store} {x y : PV} (h0 : σ'.take σ.length = σ) (h1 : frzT σ.length σ' x = some y) (h : R (.ret y) σ) : newRe σ R (.ret x) σ' := by
 refine ⟨.inl h0, ?_⟩
 simp only [h1, h0]; exact h
end
end Go.Proofs.YtdplbgfokoajjaaGreat
end
section
set_option maxRecDepth 20000
set_option linter.unusedVariables false
set_option linter.unusedSimpArgs false
namespace Go.Proofs.YtdplbgfokoajjaaGreat
open Go
attribute [simp] PostD.seq PostD.block deferK rangeR bodyD LvD
def rfBody : Code → Option (Code × Code)
 | .rangeFunc _ _ a b => some (a, b)
 | .seq x y => (rfBody x).orElse fun _ => rfBody y
 | .cond _ x y => (rfBody x).orElse fun _ => rfBody y
 | .block _ x => rfBody x
 | .loop x => rfBody x
 | .scope x => rfBody x
 | _ => none
def flatN : Nat → PV → Bool
 | 0, _ => false
 | n + 1, x => match x with
  | .undef => true
  | .bool _ => true
  | .int _ _ => true
  | .str _ => true
  | .nilp => true
  | .nils => true
  | .lit [] => true
  | .nilm => true
  | .nilf => true
  | .nili => true
  | .agg _ fs => fs.all (flatN n)
  | .tup vs => vs.all (flatN n)
  | _ => false
abbrev flatB := flatN 6
section
variable {E : Env}
theorem VCs_all {c c' : Cx} {p : PV → Bool} (hp : ∀ x cs, p x = true → VC E c x cs → VC E c' x cs) : ∀ (Ts : List TypeId) (xs : List PV) (cs : List Value), xs.all p = true → VCs E c Ts xs cs → VCs E c' Ts xs cs
 | _, _, _, h, .nil => .nil
 | T :: Ts, x :: xs, _, h, .cons hf hx hs => by
  simp only [List.all_cons, Bool.and_eq_true] at h
  exact .cons hf (hp _ _ h.1 hx) (VCs_all hp _ _ _ h.2 hs)
theorem flat_VC {c c' : Cx} : ∀ (n : Nat) (x : PV) (cs : List Value), flatN n x = true → VC E c x cs → VC E c' x cs := by
 intro n
 induction n with
 | zero => intro x cs h; simp [flatN] at h
 | succ n ih =>
  intro x cs hf h
  cases h with
  | bool b => exact .bool b
  | int k n => exact .int k n
  | str s => exact .str s
  | nilp => exact .nilp
  | nils a => exact .nils a
  | lit0 a n => exact .lit0 a n
  | lit xs T k o cap cs ca e fz hI hw hx hwin hcap =>
   have : xs = [] := by
    cases xs with
    | nil => rfl
    | cons x xs => simp [flatN] at hf
   subst this
   exact .lit0 _ _
  | nilm => exact .nilm
  | nilf => exact .nilf
  | nili => exact .nili
  | agg t fs cs hs => exact .agg t fs cs (VCs_all (p := flatN n) ih _ _ _ (by simpa [flatN] using hf) hs)
  | _ => simp [flatN] at hf
theorem flat_VL {c c' : Cx} : ∀ (n : Nat) {xs : List PV} {vs : List Value}, VL E c xs vs → xs.all (flatN n) = true → VL E c' xs vs
 | n, _, _, .nil, hf => .nil
 | n, _, _, .undef hs, hf => by
  simp only [List.all_cons, Bool.and_eq_true] at hf
  exact .undef (flat_VL n hs hf.2)
 | n, _, _, .one a b x hs, hf => by
  simp only [List.all_cons, Bool.and_eq_true] at hf
  exact .one a b (flat_VC n _ _ hf.1 x) (flat_VL n hs hf.2)
 | n, _, _, .agg x hs, hf => by
  simp only [List.all_cons, Bool.and_eq_true] at hf
  exact .agg (flat_VC n _ _ hf.1 x) (flat_VL n hs hf.2)
 | 0, _, _, .tup x hs, hf => by
  simp [flatN] at hf
 | n + 1, _, _, .tup x hs, hf => by
  simp only [List.all_cons, Bool.and_eq_true, flatN] at hf
  exact .tup (flat_VL n x hf.1) (flat_VL (n + 1) hs hf.2)
def lendRe (σ : Store) (R : Re → Store → Prop) (re : Re) (σ' : Store) : Prop :=
 match re with
 | .ret x => flatB x = true ∧ R (.ret x) σ
 | .pan x => flatB x = true ∧ R (.pan x) σ
theorem C_lend (O : E.OK) {f : FuncId} {args args' : List PV} {σ : Store} {R : Re → Store → Prop} (ha : args.mapM (frz σ 6) = some args') (h : C E f args' [] (lendRe σ R)) : C E f args σ R := fun cx vs hn hv => by
 let cx0 : Cx := { cx.frozen with F := fun k => cx.F k ∨ cx.frozen.I k, top := 0 }
 have hn0 : Now E cx0 [] := ⟨Nat.le_refl _, fun b h => h.elim, fun k h => .inr h, fun k h => by
  rcases h with h | h | ⟨b, m, h1, h2⟩
  ·exact hn.imm k h
  ·exact hn.immI k h
  ·obtain ⟨_, _, h3, _⟩ := hn.dom b m h1; exact h2 ▸ h3, fun b m h => by simp [cx0, Cx.frozen] at h, fun b blk h => by simp at h, fun b b' m m' h => by simp [cx0, Cx.frozen] at h, fun b m h => by simp [cx0, Cx.frozen] at h⟩
 have hv0 : VL E cx0 args' vs.toList := (hv.frz1 O hn 6 ha).ext ⟨fun _ h => h, fun _ _ => rfl, fun _ h => h, fun b hb m h => by simp [cx0, Cx.frozen] at h⟩
 refine (h cx0 vs hn0 hv0).mono ?_
 rintro e w' ⟨re, σ1, cx1, rfl, h2, h3, h4, h5⟩
 let cx' : Cx := { cx with w := cx1.w }
 have hext : Ext cx cx' := ⟨fun k hk => hk, fun k hk => h5.keeps k (.inl (hn.IF k hk)), fun b h => h, fun b hb m h => ⟨m, h, Nat.le_refl _, fun _ => rfl⟩⟩
 have hn' : Now E cx' σ := ⟨hn.top, hn.A, hn.IF, fun k h => Nat.lt_of_lt_of_le (hn.imm k h) h5.size, fun b m hm => by
   obtain ⟨blk, k1, k2, k3, k4⟩ := hn.dom b m hm
   exact ⟨blk, k1, Nat.lt_of_lt_of_le k2 h5.size, k3, k4.ext hext (h5.keeps _ (.inr (.inr ⟨b, m, hm, rfl⟩)))⟩, hn.live, hn.inj, hn.base⟩
 have hs' : Step cx cx' := ⟨hext, fun k h => h, fun k hk => h5.keeps k (.inl hk), fun k hk => .inl hk, fun b m hm => .inr ⟨b, m, hm, rfl⟩, rfl, fun _ h => .inl h, h5.size, h5.os, h5.tape, h5.output⟩
 cases re with
 | ret r =>
  cases e <;> simp only [ReOK] at h3
  exact ⟨.ret r, σ, cx', rfl, h2.2, flat_VL 6 h3 (by simp [h2.1]), hn', hs'⟩
 | pan r =>
  cases e <;> simp only [ReOK] at h3
  obtain ⟨v, hch, h3⟩ := h3
  exact ⟨.pan r, σ, cx', rfl, h2.2, ⟨v, hch, flat_VL 6 h3 (by simp [h2.1])⟩, hn', hs'⟩
variable {N z : Nat} {Q : Post} {c : Code}
theorem TL_ix (fr : Nat → Fr) (st : Nat → Store) (n : Nat) (P : Nat → Prop) (h0 : P 0) (hn : P n → TL E N z c Q (fr n) (st n)) (h : ∀ k, k < n → P k → (P (k + 1) → TL E N z c Q (fr (k + 1)) (st (k + 1))) → TL E N z c Q (fr k) (st k)) : TL E N z c Q (fr 0) (st 0) := by
 have key : ∀ j k, k + j = n → P k → TL E N z c Q (fr k) (st k) := by
  intro j
  induction j with
  | zero => intro k hk hp; rw [Nat.add_zero] at hk; subst hk; exact hn hp
  | succ j ih => intro k hk hp; exact h k (by omega) hp fun hp' => ih (k + 1) (by omega) hp'
 exact key n 0 (by omega) h0
theorem TL_st (n : Nat) (S : Nat → Fr → Store → Prop) (hn : ∀ fr σ, S n fr σ → TL E N z c Q fr σ) (h : ∀ k fr σ, k < n → S k fr σ → (∀ fr σ, S (k + 1) fr σ → TL E N z c Q fr σ) → TL E N z c Q fr σ) {fr : Fr} {σ : Store} (h0 : S 0 fr σ) : TL E N z c Q fr σ := by
 have key : ∀ j k fr σ, k + j = n → S k fr σ → TL E N z c Q fr σ := by
  intro j
  induction j with
  | zero => intro k fr σ hk hp; rw [Nat.add_zero] at hk; subst hk; exact hn _ _ hp
  | succ j ih => intro k fr σ hk hp; exact h k fr σ (by omega) hp fun fr σ hp' => ih (k + 1) fr σ (by omega) hp'
 exact key n 0 fr σ (by omega) h0
theorem T_regk (O : E.OK) {fr : Fr} {σ : Store} {Q : Post} {id : Nat} {ops : Array Oper} (hd : (ops.toList.all fun o => match o.dst with | some t => decide (t < N) | none => true) = true) (h : ∀ ops', ops' = ops → RF E ops' Q (Q .normal) ops.toList fr σ) : T E N z (.region id ops false) Q fr σ := T_reg O hd (h _ rfl)
theorem T_cast {c c' : Code} {fr : Fr} {σ : Store} {Q : Post} (h : c = c') (ht : T E N z c' Q fr σ) : T E N z c Q fr σ := h ▸ ht
theorem YR_walk {σ : Store} (b : Nat) {l n : Nat} {fr0 : Fr} {ps : Array Tmp} {ac bd : Code} {vs : List PV} {pend : Option Code} {R : Re → Store → Prop} (hb : Store.at σ b = some (.loop l .ready pend n fr0 ps ac bd)) (hlen : vs.length = ps.toList.length) (hps : (ps.toList.all fun p => decide (p < n)) = true)
  (h : T E n σ.length ac (Post.seq (fun fr1 σ1 => ∃ pend' fr', Store.at σ1 b = some (.loop l .ready pend' n fr' ps ac bd) ∧ T E n σ.length bd (roundQ l b R) fr1 (σ1.set b (some (.loop l .busy pend' n fr' ps ac bd)))) (fun _ _ _ => False)) (putsF fr0 ps.toList vs) σ) :
  YR E l vs σ R := YR_loop hb hlen hps h
theorem TZ_rangek (O : E.OK) {Q : PostD} {fr : Fr} {σ : Store} {ds : List DV} {g : Operand} {ps : Array Tmp} {assign body : Code} {gf : FuncId} {xs ys : List PV} (ts : List Nat) (hg : Fr.eval fr g = some (.fn (.func gf) xs ys)) (hk : E.fk gf = true)
  (h : ∀ l as bd Q', as = assign → bd = body → Q' = Q → C E gf (xs ++ [.fn (.yield l) [] []] ++ ys) (σ ++ [some (.loop l .ready none N (Fr.keep ts fr) ps as bd)]) (rangeR E N Q' ds σ.length fr)) : TZ E N (.rangeFunc g ps assign body) Q ds fr σ :=
 TZ_range O ts hg hk fun l => h l _ _ _ rfl rfl rfl
theorem wp_of_wr_none {P : Program} {c : Code} {Q : Exit → Act → World → Prop} {a : Act} {w : World} (h : c.wpIn (FW none) 0 P Q a w) : c.wp P Q a w := wpIn_wide.1 h
theorem wplN_then {ops : Array Oper} {M : Exit → Act → World → Prop} {K : Fr → Store → Prop} {os2 : List Oper} {ds : List Deferred} {cx0 : Cx}
  (hc : ∀ fr' σ' (cx' : Cx) (a' : Act), K fr' σ' → Now E cx' σ' → FR E cx' N fr' a'.tmps → a'.defers = ds → Step (cx0.below z) cx' → wpListIn (FW none) 0 E.P ops M os2 a' cx'.w) :
  ∀ (os : List Oper) (fr : Fr) (σ : Store), (∀ o ∈ os, ∀ t, o.dst = some t → t < N) → ROps E N z ops (fun _ _ _ => False) K os fr σ →
  ∀ (cx : Cx) (a : Act), a.defers = ds → cx.top ≤ z → Now E cx σ → FR E cx N fr a.tmps → Step (cx0.below z) cx → wpListIn (FW none) 0 E.P ops M (os ++ os2) a cx.w
 | [], fr, σ, hd, h, cx, a, hds, ht, hn, hf, hs => hc fr σ cx a h hn hf hds hs
 | o :: os, fr, σ, hd, h, cx, a, hds, ht, hn, hf, hs => by
  obtain ⟨b, hb, h⟩ := h
  have hw := wanted_of_guard hf hb
  show wpListIn (FW none) 0 E.P ops M (o :: (os ++ os2)) a cx.w
  unfold wpListIn
  rw [hw]
  cases b with
  | true =>
   simp only [if_true] at h ⊢
   have h1 := h cx a ht hn hf
   refine opr_mono (K' := wpListIn (FW none) 0 E.P ops M (os ++ os2)) (Q' := M) ?_ ?_ h1 none
   ·rintro a' w' ⟨fr', σ', cx', rfl, hk, hn', hf', hd', hs'⟩
    exact wplN_then hc os fr' σ' (fun o ho => hd o (by simp [ho])) hk cx' a' (hd'.trans hds) (hs'.top ▸ ht) hn' hf' (hs.transB (hs'.ofBelow ht))
   ·rintro e a' w' ⟨_, _, _, _, _, hl, _⟩; exact hl.elim
  | false =>
   simp only [Bool.false_eq_true, if_false] at h ⊢
   have hput : FR E cx N (Fr.put fr o.dst (.tup [])) (a.put o.dst undef).tmps := hf.put V_skip (hd o (by simp))
   have hde : (a.put o.dst undef).defers = a.defers := by cases o.dst <;> rfl
   exact ⟨fun _ _ => trivial, wplN_then hc os _ σ (fun o ho => hd o (by simp [ho])) h cx (a.put o.dst undef) (hde.trans hds) ht hn hput hs⟩
theorem TZ_reg (O : E.OK) {Q : PostD} {fr : Fr} {σ : Store} {ds : List DV} {id : Nat} {ops : Array Oper} (k : Nat) (hd : (ops.toList.all fun o => match o.dst with | some t => decide (t < N) | none => true) = true)
  (h : RF E ops (fun _ _ _ => False) (deferK E ops Q ds (ops.toList.drop k)) (ops.toList.take k) fr σ) : TZ E N (.region id ops false) Q ds fr σ := fun n0 cx a h0 hn hf hds => by
 have hd' : ∀ o ∈ ops.toList, ∀ t, o.dst = some t → t < N := fun o ho t ht => by
  have := List.all_eq_true.1 hd o ho
  rw [ht] at this; simpa using this
 refine wp_of_wr_none (wpIn_region_list (F := FW none) (n := 0) ?_)
 rw [← List.take_append_drop k ops.toList]
 have hall : ∀ o ∈ ops.toList.drop k, ∀ t, o.dst = some t → t < N := fun o ho => hd' o (List.mem_of_mem_drop ho)
 revert hall h
 generalize ops.toList.drop k = rest
 intro h hall
 refine (wplN_then (cx0 := cx) (z := σ.length) (ds := a.defers) (K := deferK E ops Q ds rest) (os2 := rest) ?_ (ops.toList.take k) fr σ (fun o ho => hd' o (List.mem_of_mem_take ho)) (ROps_of_RF O _ fr σ (fun o ho => hd' o (List.mem_of_mem_take ho)) h) cx a rfl hn.top hn hf ((Step.refl cx).ofBelow hn.top))
 intro fr1 σ1 cx1 a1 hK hn1 hf1 hd1 hs1
 have hs1 := hs1.unbelow hn.A
 unfold deferK at hK
 split at hK
 ·rename_i o os
  split at hK
  ·rename_i c hop hgd
   split at hK
   ·rename_i g vs hcal
    obtain ⟨f, xs, ys, ws, c1, c2, c3, c4, rfl⟩ := sCallee_some hcal
    obtain ⟨us, us', k1, k2, k3⟩ := (hf1.ev f _ c2).fn_inv
    have k4 := VL_map hf1.ev c3
    unfold wpListIn
    rw [if_pos (by simp [Region.wanted, hgd])]
    refine ⟨fun _ _ => trivial, ?_⟩
    have hrun : (Oper.semAt (FW none).round a1.eval o).run E.P cx1.w = .ok (.defer { target := .fn (.func g) us', args := us ++ c.args.map a1.eval }) cx1.w := by
     show (execOp a1.eval o).run E.P cx1.w = _
     simp [execOp, hop, resolve, c1, k1, Deferred.ofValue]
    rw [hrun]
    show wpListIn _ _ _ _ _ _ _ _
    have hds1 : DSR E n0 cx1 cx1.w.heap.size (.call g (xs ++ ws ++ ys) :: ds) ({ target := .fn (.func g) us', args := us ++ c.args.map a1.eval } :: a1.defers) :=
     .call _ _ (by simpa using (k2.app k4).app k3) (by rw [hd1]; exact (hds.step hn hs1).hi hs1.size)
    have hf2 : FR E cx1 N (Fr.put fr1 o.dst (.tup [])) ({ a1 with defers := { target := .fn (.func g) us', args := us ++ c.args.map a1.eval } :: a1.defers }.put o.dst undef).tmps :=
     FR.put (a := { a1 with defers := { target := .fn (.func g) us', args := us ++ c.args.map a1.eval } :: a1.defers }) hf1 V_skip (hall o (by simp))
    have hw := wpl_of_ROps (z := σ1.length) (Q := Q (.call g (xs ++ ws ++ ys) :: ds)) (fun _ _ h => h) os _ σ1 (fun o ho => hall o (by simp [ho])) (ROps_of_RF O _ _ σ1 (fun o ho => hall o (by simp [ho])) hK) cx1 cx1 ({ a1 with defers := { target := .fn (.func g) us', args := us ++ c.args.map a1.eval } :: a1.defers }.put o.dst undef) hn1.top hn1 hf2 ((Step.refl cx1).ofBelow hn1.top)
    refine wpl_mono.go ?_ none os _ _ (hw none)
    intro e a' w' hl
    have hde : ({ a1 with defers := { target := .fn (.func g) us', args := us ++ c.args.map a1.eval } :: a1.defers }.put o.dst undef : Act).defers = { target := .fn (.func g) us', args := us ++ c.args.map a1.eval } :: a1.defers := by cases o.dst <;> rfl
    rw [hde] at hl
    exact LiftD.step hs1 (LiftD_of_Lift hn1 hds1 hl)
   ·exact hK.elim
  ·exact hK.elim
 ·exact hK.elim
end
end Go.Proofs.YtdplbgfokoajjaaGreat
end
section
set_option maxRecDepth 20000
set_option linter.unusedVariables false
set_option linter.unusedSimpArgs false
namespace Go.Proofs.YtdplbgfokoajjaaGreat
open Go
inductive It where
 | code (c : Code)
 | endb (id : Nat)
 | head (c : Code)
def SP (E : Env) (N z : Nat) (Q : Post) : List It → Post
 | [] => Q
 | .code c :: k => Post.seq (T E N z c (SP E N z Q k)) (SP E N z Q k)
 | .endb id :: k => Post.block id (SP E N z Q k)
 | .head c :: k => Post.seq (TL E N z c (SP E N z Q k)) (SP E N z Q k)
def Is {α : Type} (x y : α) : Prop := x = y
def IsR (R' R : Re → Store → Prop) : Prop := ∀ re σ, R re σ → R' re σ
section
variable {E : Env} {N z : Nat} {Q : Post} {fr : Fr} {σ : Store} {k : List It}
theorem s_seq {x y : Code} (h : ∀ y', Is y' y → T E N z x (SP E N z Q (.code y' :: k)) fr σ) : T E N z (.seq x y) (SP E N z Q k) fr σ := T_seq (h y rfl)
theorem s_block {id : Nat} {c : Code} (h : T E N z c (SP E N z Q (.endb id :: k)) fr σ) : T E N z (.block id c) (SP E N z Q k) fr σ := T_block h
theorem s_next {y' y : Code} (hy : Is y' y) (h : T E N z y (SP E N z Q k) fr σ) : SP E N z Q (.code y' :: k) .normal fr σ := by cases hy; exact h
@[simp] theorem SP_nil (e : Ex) : SP E N z Q [] e fr σ = Q e fr σ := rfl
@[simp] theorem SP_code_exit (c : Code) (i : Nat) : SP E N z Q (.code c :: k) (.exit i) fr σ = SP E N z Q k (.exit i) fr σ := rfl
@[simp] theorem SP_code_ret (c : Code) : SP E N z Q (.code c :: k) .ret fr σ = SP E N z Q k .ret fr σ := rfl
@[simp] theorem SP_code_pan (c : Code) (v : PV) : SP E N z Q (.code c :: k) (.pan v) fr σ = SP E N z Q k (.pan v) fr σ := rfl
@[simp] theorem SP_endb_normal (i : Nat) : SP E N z Q (.endb i :: k) .normal fr σ = SP E N z Q k .normal fr σ := rfl
@[simp] theorem SP_endb_exit (i j : Nat) : SP E N z Q (.endb i :: k) (.exit j) fr σ = if j = i then SP E N z Q k .normal fr σ else SP E N z Q k (.exit j) fr σ := rfl
@[simp] theorem SP_endb_ret (i : Nat) : SP E N z Q (.endb i :: k) .ret fr σ = SP E N z Q k .ret fr σ := rfl
@[simp] theorem SP_endb_pan (i : Nat) (v : PV) : SP E N z Q (.endb i :: k) (.pan v) fr σ = SP E N z Q k (.pan v) fr σ := rfl
@[simp] theorem SP_head_exit (c : Code) (i : Nat) : SP E N z Q (.head c :: k) (.exit i) fr σ = SP E N z Q k (.exit i) fr σ := rfl
@[simp] theorem SP_head_ret (c : Code) : SP E N z Q (.head c :: k) .ret fr σ = SP E N z Q k .ret fr σ := rfl
@[simp] theorem SP_head_pan (c : Code) (v : PV) : SP E N z Q (.head c :: k) (.pan v) fr σ = SP E N z Q k (.pan v) fr σ := rfl
theorem s_round {c' c : Code} (hc : Is c' c) (h : T E N z c (SP E N z Q (.head c' :: k)) fr σ) : TL E N z c' (SP E N z Q k) fr σ := by cases hc; exact TL_round h
theorem s_loop {c : Code} (h : ∀ c', Is c' c → TL E N z c' (SP E N z Q k) fr σ) : T E N z (.loop c) (SP E N z Q k) fr σ := T_loop (h c rfl)
theorem T_if {t : Nat} {x y : Code} (b : Bool) (hg : Fr.get fr t = some (.bool b)) (h1 : b = true → T E N z x Q fr σ) (h2 : b = false → T E N z y Q fr σ) : T E N z (.cond (.tmp t) x y) Q fr σ := T_cond hg h1 h2
theorem s_body (O : E.OK) {f : FuncId} {fn : Func} {c : Code} {args : List PV} {R : Re → Store → Prop} (hfn : E.P.funcs[f]? = some fn) (hb : fn.body = some c) (hl : args.length ≤ fn.ntmps)
  (h : ∀ R', IsR R' R → T E fn.ntmps σ.length c (SP E fn.ntmps σ.length (bodyQ E fn.results.toList R') []) (Fr.args 0 args) σ) : C E f args σ R := C_body O hfn hb hl (h R fun _ _ h => h)
theorem s_R {R' R : Re → Store → Prop} {re : Re} (hR : IsR R' R) (h : R re σ) : R' re σ := hR _ _ h
theorem IsR.refl (R : Re → Store → Prop) : IsR R R := fun _ _ h => h
end
theorem wi64 {n : Int} (h1 : -9223372036854775808 ≤ n) (h2 : n ≤ 9223372036854775807) : IntKind.i64.wrap n = n := IntWalk.i64_in _ ⟨h1, h2⟩
theorem wu64 {n : Int} (h1 : 0 ≤ n) (h2 : n ≤ 18446744073709551615) : IntKind.u64.wrap n = n := IntWalk.u64_in _ ⟨h1, h2⟩
theorem dect {p : Prop} [Decidable p] (h : p) : decide p = true := decide_eq_true h
theorem decf {p : Prop} [Decidable p] (h : ¬ p) : decide p = false := decide_eq_false h
theorem ift {α : Type} {p : Prop} [Decidable p] {a b : α} (h : p) : (if p then a else b) = a := if_pos h
theorem iff_ {α : Type} {p : Prop} [Decidable p] {a b : α} (h : ¬ p) : (if p then a else b) = b := if_neg h
theorem ipt {p a b : Prop} [Decidable p] (h : p) : (if p then a else b) = a := if_pos h
theorem ipf {p a b : Prop} [Decidable p] (h : ¬ p) : (if p then a else b) = b := if_neg h
theorem beqt {a b : Int} (h : a = b) : (a == b) = true := by simp [h]
theorem beqf {a b : Int} (h : ¬ a = b) : (a == b) = false := by simp [h]
theorem bnet {a b : Int} (h : ¬ a = b) : (a != b) = true := by simp [h]
theorem bnef {a b : Int} (h : a = b) : (a != b) = false := by simp [h]
theorem wtdiv {a b : Int} (h1 : -9223372036854775807 ≤ a) (h2 : a ≤ 9223372036854775807) : IntKind.i64.wrap (a.tdiv b) = a.tdiv b := by
 have := Int.natAbs_tdiv_le_natAbs a b
 exact wi64 (by omega) (by omega)
end Go.Proofs.YtdplbgfokoajjaaGreat
end
