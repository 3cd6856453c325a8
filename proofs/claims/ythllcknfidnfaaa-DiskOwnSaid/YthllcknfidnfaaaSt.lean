/- What a plain operation looks at: its operands and their blocks; it says no more than what is there. -/
import Derived.Test.YthllcknfidnfaaaSr
set_option linter.unusedVariables false
set_option linter.unusedSimpArgs false
namespace Go.Proofs.Ythllcknfidnfaaa
open Go

def idOf : PV → List Nat
  | .ptr b _ _ _ => [b]
  | .ref b _ _ _ => [b]
  | .map b => [b]
  | _ => []
/-- The blocks that an operation's operands tell. -/
def foot (op : Op) (fr : Fr) : List Nat := op.operands.toList.flatMap fun x => match Fr.eval fr x with | some v => idOf v | none => []
def refId : PV → Option Nat
  | .ref b _ _ _ => some b
  | _ => none
def Store.wr (σ : Store) : Option (Nat × Blk) → Store
  | none => σ
  | some (b, x) => σ.set b (some x)

section
variable {E : Env} {σ τ : Store}

structure Near (op : Op) (fr fr' : Fr) (σ τ : Store) : Prop where
  ev : ∀ x ∈ op.operands, Fr.eval fr' x = Fr.eval fr x
  mem : ∀ b ∈ foot op fr, Store.at τ b = Store.at σ b

theorem Near.ids {op : Op} {fr fr' : Fr} (h : Near op fr fr' σ τ) {x : Operand} {v : PV} (hx : x ∈ op.operands) (hv : Fr.eval fr x = some v) : ∀ b ∈ idOf v, Store.at τ b = Store.at σ b :=
  fun b hb => h.mem b (List.mem_flatMap.2 ⟨x, by simpa using hx, by rw [hv]; exact hb⟩)
theorem foot_mem {op : Op} {fr : Fr} {x : Operand} {v : PV} (hx : x ∈ op.operands) (hv : Fr.eval fr x = some v) {b : Nat} (hb : b ∈ idOf v) : b ∈ foot op fr :=
  List.mem_flatMap.2 ⟨x, by simpa using hx, by rw [hv]; exact hb⟩

theorem sLoad_loc {T : TypeId} {x : PV} (h : ∀ b ∈ idOf x, Store.at τ b = Store.at σ b) : sLoad E T x τ = sLoad E T x σ := by
  cases x <;> first | rfl | (simp only [idOf, List.mem_cons, List.not_mem_nil, or_false, forall_eq] at h; simp only [sLoad, h])
theorem sFieldAddr_loc {T : TypeId} {x : PV} {k : Nat} (h : ∀ b ∈ idOf x, Store.at τ b = Store.at σ b) : sFieldAddr E T x k τ = sFieldAddr E T x k σ := by
  cases x <;> first | rfl | (rename_i y; cases y <;> rfl) | (simp only [idOf, List.mem_cons, List.not_mem_nil, or_false, forall_eq] at h; simp only [sFieldAddr, h])
theorem sIndexAddr_loc {T : TypeId} {x : PV} {k : Int} (h : ∀ b ∈ idOf x, Store.at τ b = Store.at σ b) : sIndexAddr E T x k τ = sIndexAddr E T x k σ := by
  unfold sIndexAddr; generalize E.td T = d; cases d <;> cases x <;> first | rfl | (simp only [idOf, List.mem_cons, List.not_mem_nil, or_false, forall_eq] at h; simp only [h])
theorem sNilCheck_loc {x : PV} (h : ∀ b ∈ idOf x, Store.at τ b = Store.at σ b) : sNilCheck x τ = sNilCheck x σ := by
  cases x <;> first | rfl | (simp only [idOf, List.mem_cons, List.not_mem_nil, or_false, forall_eq] at h; simp only [sNilCheck, h])
theorem sSlice_loc {T : TypeId} {x : PV} {a b c : Option Int} (h : ∀ b ∈ idOf x, Store.at τ b = Store.at σ b) : sSlice E T x a b c τ = sSlice E T x a b c σ := by
  unfold sSlice; generalize E.td T = d; cases d <;> cases x <;> first | rfl | (simp only [idOf, List.mem_cons, List.not_mem_nil, or_false, forall_eq] at h; simp only [h])
theorem sLen_loc {T : TypeId} {x : PV} (h : ∀ b ∈ idOf x, Store.at τ b = Store.at σ b) : sLen E T x τ = sLen E T x σ := by
  unfold sLen; generalize E.td T = d; cases d <;> cases x <;> first | rfl | (simp only [idOf, List.mem_cons, List.not_mem_nil, or_false, forall_eq] at h; simp only [h])
theorem sList_loc {x : PV} (h : ∀ b ∈ idOf x, Store.at τ b = Store.at σ b) : sList x τ = sList x σ := by
  cases x <;> first | rfl | (simp only [idOf, List.mem_cons, List.not_mem_nil, or_false, forall_eq] at h; simp only [sList, h])
theorem sApp_loc {e : TypeId} {x : PV} {z : Bool} (h : ∀ b ∈ idOf x, Store.at τ b = Store.at σ b) : sApp E e x τ z = sApp E e x σ z := by
  cases z <;> simp only [sApp, Bool.false_eq_true, if_false, if_true]; exact sList_loc h

theorem Store.new_wr {σ : Store} {nid : Nat} (h : nid < σ.length) (x : Blk) : Store.new σ nid x = σ.wr (some (nid, x)) := by simp [Store.new, h, Store.wr]

/-- The block that an operation writes. -/
def wid (op : Op) (fr : Fr) (nid : Nat) (v : PV) : Option Nat :=
  match op with
  | .alloc _ | .box _ _ | .buildSlice _ _ _ | .makeSlice _ _ _ => some nid
  | .store _ x _ => match Fr.eval fr x with | some (.ptr b _ _ _) => some b | _ => none
  | .makeMap _ _ => some nid
  | .mapUpdate _ m _ _ => match Fr.eval fr m with | some (.map b) => some b | _ => none
  | .call c => match c.callee, c.args.toList with
    | .builtin .delete, [m, _] => match Fr.eval fr m with | some (.map b) => some b | _ => none
    | _, _ => refId v
  | _ => none

/-- One write at most, to a block of the operands or to the new one; the same from any store that is alike there. -/
def Loc (E : Env) (op : Op) (fr : Fr) (σ : Store) (nid : Nat) (v : PV) (σ' : Store) : Prop :=
  ∃ w : Option (Nat × Blk), w.map (·.1) = wid op fr nid v ∧ σ' = σ.wr w ∧ (∀ p, w = some p → (p.1 ∈ foot op fr ∨ p.1 = nid) ∧ p.1 < σ.length) ∧ ∀ fr' τ, Near op fr fr' σ τ → nid < τ.length → sop E op fr' τ nid = some (v, τ.wr w)

theorem sStore_loc {T : TypeId} {x v : PV} {σ' : Store} (h : sStore E T x v σ = some σ') : ∃ b blk, (∃ g i p, x = .ptr b g i p) ∧ b ∈ idOf x ∧ b < σ.length ∧ σ' = σ.set b (some blk) ∧ ∀ τ, (∀ b ∈ idOf x, Store.at τ b = Store.at σ b) → sStore E T x v τ = some (τ.set b (some blk)) := by
  unfold sStore at h
  split at h
  · rename_i b g i p
    split at h
    · rename_i ty g' xs hb
      split at h
      · rename_i hg
        split at h
        · rename_i e he
          split at h
          · rename_i e' he'
            split at h
            · rename_i hc
              simp only [Option.some.injEq] at h; subst h
              refine ⟨b, _, ⟨_, _, _, rfl⟩, by simp [idOf], getElem?_lt (Store.at_some hb), rfl, fun τ ht => ?_⟩
              have := ht b (by simp [idOf])
              simp [sStore, this, hb, hg, he, he', hc]
            · simp at h
          · simp at h
        · simp at h
      · simp at h
    · simp at h
  · simp at h

theorem sLookup_loc {T : TypeId} {x k : PV} {ok : Bool} (h : ∀ b ∈ idOf x, Store.at τ b = Store.at σ b) : sLookup E T x k ok τ = sLookup E T x k ok σ := by
  unfold sLookup; generalize E.td T = d; cases d <;> cases x <;> first | rfl | (simp only [idOf, List.mem_cons, List.not_mem_nil, or_false, forall_eq] at h; simp only [h])

theorem sMapSet_loc {T : TypeId} {x k v : PV} {σ' : Store} (h : sMapSet E T x k v σ = some σ') : ∃ b blk, x = .map b ∧ b < σ.length ∧ σ' = σ.set b (some blk) ∧ ∀ τ, (∀ b ∈ idOf x, Store.at τ b = Store.at σ b) → sMapSet E T x k v τ = some (τ.set b (some blk)) := by
  unfold sMapSet at h
  split at h
  · rename_i K e b hT
    split at h
    · rename_i kl K' es hk hb
      split at h
      · rename_i hc
        simp only [Option.some.injEq] at h; subst h
        refine ⟨b, _, rfl, getElem?_lt (Store.at_some hb), rfl, fun τ ht => ?_⟩
        have := ht b (by simp [idOf])
        unfold sMapSet
        simp only [hT, hk, this, hb]
        rw [if_pos hc]
      · simp at h
    · simp at h
  · simp at h

theorem sMapDel_loc {T K : TypeId} {x k : PV} {σ' : Store} (h : sMapDel E T K x k σ = some σ') : ∃ b blk, x = .map b ∧ b < σ.length ∧ σ' = σ.set b (some blk) ∧ ∀ τ, (∀ b ∈ idOf x, Store.at τ b = Store.at σ b) → sMapDel E T K x k τ = some (τ.set b (some blk)) := by
  unfold sMapDel at h
  split at h
  · rename_i K0 e b hT
    split at h
    · rename_i kl K' es hk hb
      split at h
      · rename_i hc
        simp only [Option.some.injEq] at h; subst h
        refine ⟨b, _, rfl, getElem?_lt (Store.at_some hb), rfl, fun τ ht => ?_⟩
        have := ht b (by simp [idOf])
        unfold sMapDel
        simp only [hT, hk, this, hb]
        rw [if_pos hc]
      · simp at h
    · simp at h
  · simp at h

theorem sAppend_loc {e : TypeId} {s : PV} {ys : List PV} {nid : Nat} {v : PV} {σ' : Store} (hn : nid < σ.length) (h : sAppend E e s ys σ nid = some (v, σ')) :
    ∃ w : Option (Nat × Blk), w.map (·.1) = refId v ∧ σ' = σ.wr w ∧ (∀ p, w = some p → (p.1 ∈ idOf s ∨ p.1 = nid) ∧ p.1 < σ.length) ∧ ∀ τ, (∀ b ∈ idOf s, Store.at τ b = Store.at σ b) → nid < τ.length → sAppend E e s ys τ nid = some (v, τ.wr w) := by
  unfold sAppend at h
  split at h
  · split at h
    · simp only [Option.some.injEq, Prod.mk.injEq] at h; obtain ⟨rfl, rfl⟩ := h
      exact ⟨none, rfl, rfl, by simp, fun τ _ _ => by simp [sAppend, Store.wr]⟩
    · rename_i hne
      split at h
      · rename_i hc
        simp only [Option.some.injEq, Prod.mk.injEq] at h; obtain ⟨rfl, rfl⟩ := h
        refine ⟨some (nid, .cells e 0 ys), rfl, Store.new_wr hn _, by simp [hn], fun τ _ ht => ?_⟩
        unfold sAppend
        simp only
        rw [if_pos hc, Store.new_wr ht]
      · simp at h
  · rename_i b g off len
    split at h
    · rename_i ty g' xs hb
      split at h
      · rename_i hc
        simp only [Option.some.injEq, Prod.mk.injEq] at h; obtain ⟨rfl, rfl⟩ := h
        refine ⟨some (b, _), rfl, rfl, fun p hp => ?_, fun τ h1 ht => ?_⟩
        · simp only [Option.some.injEq] at hp; subst hp
          exact ⟨.inl (by simp [idOf]), getElem?_lt (Store.at_some hb)⟩
        · have := h1 b (by simp [idOf])
          unfold sAppend
          simp only [this, hb]
          rw [if_pos hc]; rfl
      · simp at h
    · simp at h
  · simp at h

theorem mapM_near {f g : Operand → Option PV} : ∀ (l : List Operand), (∀ x ∈ l, g x = f x) → l.mapM g = l.mapM f
  | [], _ => rfl
  | x :: l, h => by simp only [List.mapM_cons]; rw [h x (by simp), mapM_near l fun y hy => h y (by simp [hy])]
theorem evalParts_near {fr fr' : Fr} : ∀ (l : List (Nat × Operand)), (∀ x ∈ l.map (·.2), Fr.eval fr' x = Fr.eval fr x) → evalParts fr' l = evalParts fr l
  | [], _ => rfl
  | x :: l, h => by
    have ih := evalParts_near (fr := fr) (fr' := fr') l fun y hy => h y (by simp at hy ⊢; exact .inr hy)
    unfold evalParts at ih ⊢
    simp only [List.mapM_cons]; rw [h x.2 (by simp), ih]
theorem optEval_near {fr fr' : Fr} {x : Option Operand} (h : ∀ y, x = some y → Fr.eval fr' y = Fr.eval fr y) : optEval fr' x = optEval fr x := by
  cases x with
  | none => rfl
  | some y => simp only [optEval]; rw [h y rfl]

theorem Loc.same {op : Op} {fr : Fr} {nid : Nat} {v : PV} (hw : wid op fr nid v = none) (h : ∀ fr' τ, Near op fr fr' σ τ → sop E op fr' τ nid = some (v, τ)) : Loc E op fr σ nid v σ := ⟨none, by rw [hw]; rfl, rfl, by simp, fun fr' τ hN _ => h fr' τ hN⟩
theorem Loc.fresh {op : Op} {fr : Fr} {nid : Nat} {v : PV} {x : Blk} (hn : nid < σ.length) (hw : wid op fr nid v = some nid) (h : ∀ fr' τ, Near op fr fr' σ τ → sop E op fr' τ nid = some (v, Store.new τ nid x)) : Loc E op fr σ nid v (Store.new σ nid x) :=
  ⟨some (nid, x), by rw [hw]; rfl, Store.new_wr hn x, by simp [hn], fun fr' τ hN ht => by rw [← Store.new_wr ht]; exact h fr' τ hN⟩

theorem builtin_loc {c : Call} {b : Builtin} {fr : Fr} {nid : Nat} {v : PV} {σ' : Store} (hc : c.callee = .builtin b) (hn : nid < σ.length) (h : sBuiltin E b c.args.toList c.argTypes.toList fr σ nid = some (v, σ')) : Loc E (.call c) fr σ nid v σ' := by
  have hs : ∀ fr' τ, sop E (.call c) fr' τ nid = sBuiltin E b c.args.toList c.argTypes.toList fr' τ nid := fun fr' τ => by simp only [sop, hc]
  have hop : ∀ x, x ∈ c.args.toList → x ∈ (Op.call c).operands := fun x hx => by simp only [Op.operands, Call.operands]; simp [Array.mem_toList_iff.1 hx]
  unfold sBuiltin at h
  split at h
  · rename_i x T hA hT
    split at h
    · rename_i xv hx
      split at h
      · rename_i hk
        obtain ⟨r, hr, hh⟩ := Option.map_eq_some_iff.1 h
        simp only [Prod.mk.injEq] at hh; obtain ⟨rfl, rfl⟩ := hh
        refine .same (by simp only [wid, hc]; first | rfl | (unfold sLen at hr; split at hr <;> first | (simp at hr; done) | (simp only [Option.some.injEq] at hr; subst hr; rfl) | (split at hr <;> first | (simp at hr; done) | (split at hr <;> first | (simp at hr; done) | (simp only [Option.some.injEq] at hr; subst hr; rfl))))) fun fr' τ hN => ?_
        have m := hop x (by simp [hA])
        rw [hs, hA, hT]; simp only [sBuiltin, hN.ev x m, hx, hk, if_true, sLen_loc (hN.ids m hx), hr, Option.map_some]
      · simp at h
    · simp at h
  · rename_i x y hA
    split at h
    · rename_i k a k' b hx hy
      split at h
      · rename_i e; subst e
        simp only [Option.some.injEq, Prod.mk.injEq] at h; obtain ⟨rfl, rfl⟩ := h
        refine .same (by simp only [wid, hc]; first | rfl | (unfold sLen at hr; split at hr <;> first | (simp at hr; done) | (simp only [Option.some.injEq] at hr; subst hr; rfl) | (split at hr <;> first | (simp at hr; done) | (split at hr <;> first | (simp at hr; done) | (simp only [Option.some.injEq] at hr; subst hr; rfl))))) fun fr' τ hN => ?_
        rw [hs, hA]; simp only [sBuiltin, hN.ev x (hop x (by simp [hA])), hN.ev y (hop y (by simp [hA])), hx, hy, if_true]
      · simp at h
    · simp at h
  · rename_i x y hA
    split at h
    · rename_i k a k' b hx hy
      split at h
      · rename_i e; subst e
        simp only [Option.some.injEq, Prod.mk.injEq] at h; obtain ⟨rfl, rfl⟩ := h
        refine .same (by simp only [wid, hc]; first | rfl | (unfold sLen at hr; split at hr <;> first | (simp at hr; done) | (simp only [Option.some.injEq] at hr; subst hr; rfl) | (split at hr <;> first | (simp at hr; done) | (split at hr <;> first | (simp at hr; done) | (simp only [Option.some.injEq] at hr; subst hr; rfl))))) fun fr' τ hN => ?_
        rw [hs, hA]; simp only [sBuiltin, hN.ev x (hop x (by simp [hA])), hN.ev y (hop y (by simp [hA])), hx, hy, if_true]
      · simp at h
    · simp at h
  · rename_i x y z hA
    split at h
    · rename_i k a k' b k'' d hx hy hz
      split at h
      · rename_i e
        simp only [Option.some.injEq, Prod.mk.injEq] at h; obtain ⟨rfl, rfl⟩ := h
        refine .same (by simp only [wid, hc]; first | rfl | (unfold sLen at hr; split at hr <;> first | (simp at hr; done) | (simp only [Option.some.injEq] at hr; subst hr; rfl) | (split at hr <;> first | (simp at hr; done) | (split at hr <;> first | (simp at hr; done) | (simp only [Option.some.injEq] at hr; subst hr; rfl))))) fun fr' τ hN => ?_
        rw [hs, hA]; simp only [sBuiltin, hN.ev x (hop x (by simp [hA])), hN.ev y (hop y (by simp [hA])), hN.ev z (hop z (by simp [hA])), hx, hy, hz, if_pos e]
      · simp at h
    · simp at h
  · rename_i s x S X hA hT
    have ms := hop s (by simp [hA])
    have mx := hop x (by simp [hA])
    split at h
    · rename_i sv xv e hsv hxv hS hX
      split at h
      · rename_i ys hys
        split at h
        · rename_i hcn
          obtain ⟨w, e0, e1, e2, e3⟩ := sAppend_loc hn h
          refine ⟨w, by simp only [wid, hc]; exact e0, e1, fun p hp => ⟨(e2 p hp).1.imp (foot_mem ms hsv) id, (e2 p hp).2⟩, fun fr' τ hN ht => ?_⟩
          rw [hs, hA, hT]
          unfold sBuiltin
          simp only [hN.ev s ms, hN.ev x mx, hsv, hxv, hS, hX, sApp_loc (hN.ids mx hxv), hys]
          rw [if_pos hcn]
          exact e3 τ (hN.ids ms hsv) ht
        · simp at h
      · simp at h
    · rename_i sv xv e hsv hxv hS hne
      split at h
      · rename_i ys hys
        split at h
        · rename_i hcn
          obtain ⟨w, e0, e1, e2, e3⟩ := sAppend_loc hn h
          refine ⟨w, by simp only [wid, hc]; exact e0, e1, fun p hp => ⟨(e2 p hp).1.imp (foot_mem ms hsv) id, (e2 p hp).2⟩, fun fr' τ hN ht => ?_⟩
          rw [hs, hA, hT]
          unfold sBuiltin
          simp only [hN.ev s ms, hN.ev x mx, hsv, hxv, hS]
          rcases hcn.2.2.1 with hX | hX
          · simp only [hX] at hcn ⊢
            simp only [sList_loc (hN.ids mx hxv), hys]
            rw [if_pos hcn]
            exact e3 τ (hN.ids ms hsv) ht
          · simp only [hX] at hcn ⊢
            simp only [sList_loc (hN.ids mx hxv), hys]
            rw [if_pos hcn]
            exact e3 τ (hN.ids ms hsv) ht
        · simp at h
      · simp at h
    · simp at h
  · rename_i x T hA hT
    have mx := hop x (by simp [hA])
    split at h
    · rename_i e hx hS
      split at h
      · rename_i hk
        simp only [Option.some.injEq, Prod.mk.injEq] at h; obtain ⟨rfl, rfl⟩ := h
        refine .same (by simp only [wid, hc]; rfl) fun fr' τ hN => ?_
        rw [hs, hA, hT]; simp only [sBuiltin, hN.ev x mx, hx, hS, hk, if_true]
      · simp at h
    · simp at h
  · rename_i m x T K hA hT
    have mm := hop m (by simp [hA])
    have mx := hop x (by simp [hA])
    split at h
    · rename_i mv xv hm hx
      split at h
      · rename_i hk
        obtain ⟨r, hr, hh⟩ := Option.map_eq_some_iff.1 h
        simp only [Prod.mk.injEq] at hh; obtain ⟨rfl, rfl⟩ := hh
        obtain ⟨b, blk, rfl, e2, rfl, e3⟩ := sMapDel_loc hr
        refine ⟨some (b, blk), by simp [wid, hc, hA, hm], rfl, fun p hp => by simp only [Option.some.injEq] at hp; subst hp; exact ⟨.inl (foot_mem mm hm (by simp [idOf])), e2⟩, fun fr' τ hN ht => ?_⟩
        rw [hs, hA, hT]
        unfold sBuiltin
        simp only [hN.ev m mm, hN.ev x mx, hm, hx, hk, if_true, e3 τ (hN.ids mm hm), Store.wr, Option.map_some]
      · simp at h
    · simp at h
  · simp at h

theorem sop_loc {op : Op} {fr : Fr} {nid : Nat} {v : PV} {σ' : Store} (h : sop E op fr σ nid = some (v, σ')) (hn : nid < σ.length) : Loc E op fr σ nid v σ' := by
  have h0 := h
  unfold sop at h
  split at h
  · rename_i x
    obtain ⟨r, hr, hh⟩ := Option.map_eq_some_iff.1 h
    simp only [Prod.mk.injEq] at hh; obtain ⟨rfl, rfl⟩ := hh
    exact .same rfl fun fr' τ hN => by simp [sop, hN.ev x (by simp [Op.operands]), hr]
  · rename_i x
    obtain ⟨r, hr, hh⟩ := Option.map_eq_some_iff.1 h
    simp only [Prod.mk.injEq] at hh; obtain ⟨rfl, rfl⟩ := hh
    exact .same rfl fun fr' τ hN => by simp [sop, hN.ev x (by simp [Op.operands]), hr]
  · rename_i c a b
    split at h
    · rename_i t hc
      obtain ⟨r, hr, hh⟩ := Option.map_eq_some_iff.1 h
      simp only [Prod.mk.injEq] at hh; obtain ⟨rfl, rfl⟩ := hh
      refine .same rfl fun fr' τ hN => ?_
      cases t <;> simp only [if_true, Bool.false_eq_true, if_false] at hr <;> simp [sop, hN.ev c (by simp [Op.operands]), hN.ev a (by simp [Op.operands]), hN.ev b (by simp [Op.operands]), hc, hr]
    · simp at h
  · split at h
    · rename_i hk
      simp only [Option.some.injEq, Prod.mk.injEq] at h; obtain ⟨rfl, rfl⟩ := h
      exact .fresh hn rfl fun fr' τ hN => by simp [sop, hk]
    · simp at h
  · rename_i T x
    split at h
    · rename_i v hx
      split at h
      · rename_i hk
        simp only [Option.some.injEq, Prod.mk.injEq] at h; obtain ⟨rfl, rfl⟩ := h
        exact .fresh hn rfl fun fr' τ hN => by simp [sop, hk, hN.ev x (by simp [Op.operands]), hx]
      · simp at h
    · simp at h
  · rename_i T x
    split at h
    · rename_i v hx
      split at h
      · rename_i hk
        obtain ⟨r, hr, hh⟩ := Option.map_eq_some_iff.1 h
        simp only [Prod.mk.injEq] at hh; obtain ⟨rfl, rfl⟩ := hh
        have m : x ∈ (Op.load T x).operands := by simp [Op.operands]
        exact .same rfl fun fr' τ hN => by simp [sop, hN.ev x m, hx, hk, sLoad_loc (hN.ids m hx), hr]
      · simp at h
    · simp at h
  · rename_i T x y
    split at h
    · rename_i a v hx hy
      split at h
      · rename_i hk
        obtain ⟨r, hr, hh⟩ := Option.map_eq_some_iff.1 h
        simp only [Prod.mk.injEq] at hh; obtain ⟨rfl, rfl⟩ := hh
        have m : x ∈ (Op.store T x y).operands := by simp [Op.operands]
        obtain ⟨b, blk, ⟨g, i, p, rfl⟩, e1, e2, rfl, e3⟩ := sStore_loc hr
        refine ⟨some (b, blk), by simp [wid, hx], rfl, fun p hp => by simp only [Option.some.injEq] at hp; subst hp; exact ⟨.inl (foot_mem m hx e1), e2⟩, fun fr' τ hN ht => ?_⟩
        simp [sop, hN.ev x m, hN.ev y (by simp [Op.operands]), hx, hy, hk, e3 τ (hN.ids m hx), Store.wr]
      · simp at h
    · simp at h
  · rename_i T x k
    split at h
    · rename_i v hx
      split at h
      · rename_i hk
        obtain ⟨r, hr, hh⟩ := Option.map_eq_some_iff.1 h
        simp only [Prod.mk.injEq] at hh; obtain ⟨rfl, rfl⟩ := hh
        have m : x ∈ (Op.fieldAddr T x k).operands := by simp [Op.operands]
        exact .same rfl fun fr' τ hN => by simp [sop, hN.ev x m, hx, hk, sFieldAddr_loc (hN.ids m hx), hr]
      · simp at h
    · simp at h
  · rename_i T x k
    split at h
    · rename_i v hx
      split at h
      · rename_i hk
        obtain ⟨r, hr, hh⟩ := Option.map_eq_some_iff.1 h
        simp only [Prod.mk.injEq] at hh; obtain ⟨rfl, rfl⟩ := hh
        have m : x ∈ (Op.field T x k).operands := by simp [Op.operands]
        exact .same rfl fun fr' τ hN => by simp [sop, hN.ev x m, hx, hk, hr]
      · simp at h
    · simp at h
  · rename_i T x i
    split at h
    · rename_i v k n hx hi
      split at h
      · rename_i hk
        obtain ⟨r, hr, hh⟩ := Option.map_eq_some_iff.1 h
        simp only [Prod.mk.injEq] at hh; obtain ⟨rfl, rfl⟩ := hh
        have m : x ∈ (Op.indexAddr T x i).operands := by simp [Op.operands]
        exact .same rfl fun fr' τ hN => by simp [sop, hN.ev x m, hN.ev i (by simp [Op.operands]), hx, hi, hk, sIndexAddr_loc (hN.ids m hx), hr]
      · simp at h
    · simp at h
  · rename_i T x i
    split at h
    · rename_i s k n hx hi
      split at h
      · rename_i hk
        split at h
        · rename_i b hb
          simp only [Option.some.injEq, Prod.mk.injEq] at h; obtain ⟨rfl, rfl⟩ := h
          exact .same rfl fun fr' τ hN => by simp [sop, hN.ev x (by simp [Op.operands]), hN.ev i (by simp [Op.operands]), hx, hi, hk, hb]
        · simp at h
      · simp at h
    · simp at h
  · rename_i x
    split at h
    · rename_i v hx
      split at h
      · rename_i hk
        simp only [Option.some.injEq, Prod.mk.injEq] at h; obtain ⟨rfl, rfl⟩ := h
        have m : x ∈ (Op.nilCheck x).operands := by simp [Op.operands]
        exact .same rfl fun fr' τ hN => by simp [sop, hN.ev x m, hx, sNilCheck_loc (hN.ids m hx), hk]
      · simp at h
    · simp at h
  · rename_i o T x y p
    split at h
    · rename_i a b hx hy
      split at h
      · rename_i hk
        obtain ⟨r, hr, hh⟩ := Option.map_eq_some_iff.1 h
        simp only [Prod.mk.injEq] at hh; obtain ⟨rfl, rfl⟩ := hh
        exact .same rfl fun fr' τ hN => by simp [sop, hN.ev x (by simp [Op.operands]), hN.ev y (by simp [Op.operands]), hx, hy, hk, hr]
      · simp at h
    · simp at h
  · rename_i o p x
    split at h
    · rename_i a hx
      obtain ⟨r, hr, hh⟩ := Option.map_eq_some_iff.1 h
      simp only [Prod.mk.injEq] at hh; obtain ⟨rfl, rfl⟩ := hh
      exact .same rfl fun fr' τ hN => by simp [sop, hN.ev x (by simp [Op.operands]), hx, hr]
    · simp at h
  · rename_i T U x
    split at h
    · rename_i k n k' hx hU
      split at h
      · rename_i hk
        simp only [Option.some.injEq, Prod.mk.injEq] at h; obtain ⟨rfl, rfl⟩ := h
        exact .same rfl fun fr' τ hN => by simp [sop, hN.ev x (by simp [Op.operands]), hx, hU, hk]
      · simp at h
    · rename_i ys hx hU
      split at h
      · rename_i hk
        obtain ⟨r, hr, hh⟩ := Option.map_eq_some_iff.1 h
        simp only [Prod.mk.injEq] at hh; obtain ⟨rfl, rfl⟩ := hh
        exact .same rfl fun fr' τ hN => by simp [sop, hN.ev x (by simp [Op.operands]), hx, hU, hk, hr]
      · simp at h
    · simp at h
  · rename_i T x lo hi mx
    have m : x ∈ (Op.slice T x lo hi mx).operands := by simp [Op.operands]
    split at h
    · rename_i v l hh' mm hx h1 h2 h3
      split at h
      · rename_i hk
        obtain ⟨r, hr, hh⟩ := Option.map_eq_some_iff.1 h
        simp only [Prod.mk.injEq] at hh; obtain ⟨rfl, rfl⟩ := hh
        refine .same rfl fun fr' τ hN => ?_
        have a1 : optEval fr' lo = optEval fr lo := optEval_near fun y hy => hN.ev y (by subst hy; simp [Op.operands])
        have a2 : optEval fr' hi = optEval fr hi := optEval_near fun y hy => hN.ev y (by subst hy; simp [Op.operands])
        have a3 : optEval fr' mx = optEval fr mx := optEval_near fun y hy => hN.ev y (by subst hy; simp [Op.operands])
        simp [sop, hN.ev x m, hx, a1, a2, a3, h1, h2, h3, hk, sSlice_loc (hN.ids m hx), hr]
      · simp at h
    · simp at h
  · rename_i x k
    split at h
    · rename_i vs hx
      obtain ⟨r, hr, hh⟩ := Option.map_eq_some_iff.1 h
      simp only [Prod.mk.injEq] at hh; obtain ⟨rfl, rfl⟩ := hh
      exact .same rfl fun fr' τ hN => by simp [sop, hN.ev x (by simp [Op.operands]), hx, hr]
    · simp at h
  · rename_i f first cap
    split at h
    · rename_i xs ys h1 h2
      simp only [Option.some.injEq, Prod.mk.injEq] at h; obtain ⟨rfl, rfl⟩ := h
      refine .same rfl fun fr' τ hN => ?_
      have a1 : first.toList.mapM (Fr.eval fr') = first.toList.mapM (Fr.eval fr) := mapM_near _ fun y hy => hN.ev y (by simp only [Op.operands, Array.mem_append]; exact .inl (by simpa using hy))
      have a2 : cap.toList.mapM (Fr.eval fr') = cap.toList.mapM (Fr.eval fr) := mapM_near _ fun y hy => hN.ev y (by simp only [Op.operands, Array.mem_append]; exact .inr (by simpa using hy))
      simp only [sop, a1, a2, h1, h2]
    · simp at h
  · rename_i T parts
    split at h
    · rename_i ps hp
      split at h
      · rename_i hk
        obtain ⟨r, hr, hh⟩ := Option.map_eq_some_iff.1 h
        simp only [Prod.mk.injEq] at hh; obtain ⟨rfl, rfl⟩ := hh
        refine .same rfl fun fr' τ hN => ?_
        have a1 : evalParts fr' parts.toList = evalParts fr parts.toList := evalParts_near _ fun y hy => hN.ev y (by simpa [Op.operands] using hy)
        simp [sop, a1, hp, hk, hr]
      · simp at h
    · simp at h
  · rename_i T len parts
    split at h
    · rename_i ps e hp hT
      split at h
      · rename_i hk
        obtain ⟨r, hr, hh⟩ := Option.map_eq_some_iff.1 h
        simp only [Prod.mk.injEq] at hh; obtain ⟨rfl, rfl⟩ := hh
        refine .fresh hn rfl fun fr' τ hN => ?_
        have a1 : evalParts fr' parts.toList = evalParts fr parts.toList := evalParts_near _ fun y hy => hN.ev y (by simpa [Op.operands] using hy)
        simp [sop, a1, hp, hT, hk, hr]
      · simp at h
    · simp at h
  · rename_i T l c
    split at h
    · rename_i k n k' m e hl hc hT
      split at h
      · rename_i hk
        simp only [Option.some.injEq, Prod.mk.injEq] at h; obtain ⟨rfl, rfl⟩ := h
        exact .fresh hn rfl fun fr' τ hN => by simp [sop, hN.ev l (by simp [Op.operands]), hN.ev c (by simp [Op.operands]), hl, hc, hT, hk]
      · simp at h
    · simp at h
  · rename_i T x
    split at h
    · rename_i v hx
      split at h
      · rename_i hk
        simp only [Option.some.injEq, Prod.mk.injEq] at h; obtain ⟨rfl, rfl⟩ := h
        exact .same rfl fun fr' τ hN => by simp [sop, hN.ev x (by simp [Op.operands]), hx, hk]
      · simp at h
    · simp at h
  · rename_i T
    split at h
    · rename_i K e hT
      split at h
      · rename_i hk
        simp only [Option.some.injEq, Prod.mk.injEq] at h; obtain ⟨rfl, rfl⟩ := h
        exact .fresh hn rfl fun fr' τ hN => by simp [sop, hT, hk]
      · simp at h
    · simp at h
  · rename_i T m x ok
    split at h
    · rename_i mv xv hm hx
      split at h
      · rename_i hk
        obtain ⟨r, hr, hh⟩ := Option.map_eq_some_iff.1 h
        simp only [Prod.mk.injEq] at hh; obtain ⟨rfl, rfl⟩ := hh
        have mm : m ∈ (Op.lookup T m x ok).operands := by simp [Op.operands]
        exact .same rfl fun fr' τ hN => by simp [sop, hN.ev m mm, hN.ev x (by simp [Op.operands]), hm, hx, hk, sLookup_loc (hN.ids mm hm), hr]
      · simp at h
    · simp at h
  · rename_i T m x y
    split at h
    · rename_i mv xv yv hm hx hy
      split at h
      · rename_i hk
        obtain ⟨r, hr, hh⟩ := Option.map_eq_some_iff.1 h
        simp only [Prod.mk.injEq] at hh; obtain ⟨rfl, rfl⟩ := hh
        have mm : m ∈ (Op.mapUpdate T m x y).operands := by simp [Op.operands]
        obtain ⟨b, blk, rfl, e2, rfl, e3⟩ := sMapSet_loc hr
        refine ⟨some (b, blk), by simp [wid, hm], rfl, fun p hp => by simp only [Option.some.injEq] at hp; subst hp; exact ⟨.inl (foot_mem mm hm (by simp [idOf])), e2⟩, fun fr' τ hN ht => ?_⟩
        simp [sop, hN.ev m mm, hN.ev x (by simp [Op.operands]), hN.ev y (by simp [Op.operands]), hm, hx, hy, hk, e3 τ (hN.ids mm hm), Store.wr]
      · simp at h
    · simp at h
  · rename_i c
    split at h
    · rename_i b hc
      exact builtin_loc hc hn h
    · simp at h
  · simp at h

end
end Go.Proofs.Ythllcknfidnfaaa
