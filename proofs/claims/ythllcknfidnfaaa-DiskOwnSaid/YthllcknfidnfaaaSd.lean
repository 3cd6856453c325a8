/- The judgements of the logic (a piece of code, a call) and the rules for control. -/
import Derived.Test.YthllcknfidnfaaaSc
set_option linter.unusedVariables false
set_option linter.unusedSimpArgs false
namespace Go.Proofs.Ythllcknfidnfaaa
open Go

/-- A map's elements, as they stand in it. -/
def asHeld (v : Value) : Option (DataW Value × List MemPlace) := some (.held v, [])
inductive ML (E : Env) (c : Cx) : List (Lit × PV) → List (Lit × DataW Value) → Prop
  | nil : ML E c [] []
  | cons {k : Lit} {x : PV} {v : Value} {es : List (Lit × PV)} {ds : List (Lit × DataW Value)} (h : V E c x v) (hs : ML E c es ds) : ML E c ((k, x) :: es) ((k, .held v) :: ds)
theorem ML.ext {E : Env} {c c' : Cx} (e : Ext c c') {es : List (Lit × PV)} {ds : List (Lit × DataW Value)} (h : ML E c es ds) : ML E c' es ds := by
  induction h with
  | nil => exact .nil
  | cons h _ ih => exact .cons (VL.ext h e) ih
theorem ML.len {E : Env} {c : Cx} {es : List (Lit × PV)} {ds : List (Lit × DataW Value)} (h : ML E c es ds) : es.length = ds.length := by
  induction h with
  | nil => rfl
  | cons h _ ih => simp [ih]

/-- A row of cells of which none is shared with a string. -/
def Free (ca : Array Value) (fz : Nat × Nat) : Prop := fz.1 = fz.2 ∨ ca.size ≤ fz.1
theorem Free.not {ca : Array Value} {fz : Nat × Nat} (h : Free ca fz) {o : Nat} (ho : o < ca.size) : ¬ (fz.1 ≤ o ∧ o < fz.2) := by unfold Free at h; omega
def BlkOK (E : Env) (c : Cx) (m : MB) : Blk → Prop
  | .cells ty g xs => m.gen = g ∧ m.ty = ty ∧ ∃ ca e fz cs, c.w.heap[m.blk]? = some (.cells ca e fz) ∧ ca.size = m.cells ∧ VCs E c (List.replicate xs.length ty) xs cs ∧ Win ca m.base cs ∧
      m.base + cs.length ≤ ca.size ∧ Free ca fz
  | .mp K es => m.gen = 0 ∧ m.ty = K ∧ ∃ ds : List (Lit × DataW Value), c.w.ownsMap E.P K asHeld m.blk es.length (.map ds) ∧ ML E c es ds

structure Now (E : Env) (c : Cx) (σ : Store) : Prop where
  top : c.top ≤ σ.length
  A : ∀ b, c.A b → b < σ.length
  IF : ∀ k, c.I k → c.F k
  imm : ∀ k, c.F k → k < c.w.heap.size
  dom : ∀ b m, c.mu b = some m → ∃ blk, σ[b]? = some (some blk) ∧ m.blk < c.w.heap.size ∧ ¬ c.F m.blk ∧ BlkOK E c m blk
  live : ∀ b blk, σ[b]? = some (some blk) → c.A b ∧ ∃ m, c.mu b = some m
  inj : ∀ b b' m m', c.mu b = some m → c.mu b' = some m' → m.blk = m'.blk → b = b'
  base : ∀ b m, c.mu b = some m → m.gen = 0 → m.base = 0

structure Step (c c' : Cx) : Prop where
  ext : Ext c c'
  F : ∀ k, c.F k → c'.F k
  keeps : ∀ k, c.F k → c'.w.heap[k]? = c.w.heap[k]?
  grow : ∀ k, c'.I k → c.I k ∨ c.w.heap.size ≤ k ∨ ∃ b m, c.mu b = some m ∧ m.blk = k
  muold : ∀ b m', c'.mu b = some m' → c.w.heap.size ≤ m'.blk ∨ ∃ b m, c.mu b = some m ∧ m.blk = m'.blk
  top : c'.top = c.top
  new : ∀ b, c'.A b → c.A b ∨ c.top ≤ b
  size : c.w.heap.size ≤ c'.w.heap.size
  os : c'.w.os = c.w.os
  tape : c'.w.tape = c.w.tape
  output : c'.w.output = c.w.output

theorem Step.refl (c : Cx) : Step c c := ⟨Ext.refl c, fun _ h => h, fun _ _ => rfl, fun _ h => .inl h, fun b m h => .inr ⟨b, m, h, rfl⟩, rfl, fun _ h => .inl h, Nat.le_refl _, rfl, rfl, rfl⟩
theorem Step.trans {a b c : Cx} (h : Step a b) (k : Step b c) : Step a c :=
  ⟨h.ext.trans k.ext, fun i hi => k.F i (h.F i hi), fun i hi => (k.keeps i (h.F i hi)).trans (h.keeps i hi),
    fun i hi => by
      rcases k.grow i hi with h1 | h1 | ⟨x, m, h1, h2⟩
      · exact h.grow i h1
      · exact .inr (.inl (Nat.le_trans h.size h1))
      · rcases h.muold x m h1 with h3 | ⟨y, m', h3, h4⟩
        · exact .inr (.inl (h2 ▸ h3))
        · exact .inr (.inr ⟨y, m', h3, h4.trans h2⟩),
    fun x m hx => by
      rcases k.muold x m hx with h1 | ⟨y, m', h1, h2⟩
      · exact .inl (Nat.le_trans h.size h1)
      · rcases h.muold y m' h1 with h3 | ⟨z, m'', h3, h4⟩
        · exact .inl (h2 ▸ h3)
        · exact .inr ⟨z, m'', h3, h4.trans h2⟩,
    k.top.trans h.top, fun b hb => by
      rcases k.new b hb with h1 | h1
      · exact h.new b h1
      · exact .inr (h.top ▸ h1),
    Nat.le_trans h.size k.size, k.os.trans h.os, k.tape.trans h.tape, k.output.trans h.output⟩

/-- Of a moment only what was there when a function was entered. -/
def Cx.below (c : Cx) (z : Nat) : Cx := { c with A := fun b => c.A b ∧ b < z }

theorem Step.ofBelow {c c' : Cx} (h : Step c c') {z : Nat} (hz : c.top ≤ z) : Step (c.below z) c' :=
  ⟨⟨h.ext.I, h.ext.keeps, fun b hb => h.ext.A b hb.1, fun b hb => h.ext.mu b hb.1⟩, h.F, h.keeps, h.grow, h.muold, h.top, fun b hb => by
    rcases h.new b hb with h1 | h1
    · rcases Nat.lt_or_ge b z with h2 | h2
      · exact .inl ⟨h1, h2⟩
      · exact .inr (Nat.le_trans hz h2)
    · exact .inr h1, h.size, h.os, h.tape, h.output⟩
theorem Step.toBelow {c c' : Cx} {z : Nat} (h : Step (c.below z) c') : Step (c.below z) (c'.below z) :=
  ⟨⟨h.ext.I, h.ext.keeps, fun b hb => ⟨h.ext.A b hb, hb.2⟩, h.ext.mu⟩, h.F, h.keeps, h.grow, h.muold, h.top, fun b hb => h.new b hb.1, h.size, h.os, h.tape, h.output⟩
theorem Step.transB {a b c : Cx} {z : Nat} (h : Step (a.below z) b) (k : Step (b.below z) c) : Step (a.below z) c := h.toBelow.trans k
theorem Step.topB {a b : Cx} {z : Nat} (h : Step (a.below z) b) : b.top = a.top := h.top
/-- The number from which on new blocks are counted is a mere label. -/
def Cx.label (c : Cx) (n : Nat) : Cx := { c with top := n }
theorem Step.relabel {c c' : Cx} {n : Nat} (h : Step (c.label n) c') (hn : c.top ≤ n) : Step c (c'.label c.top) :=
  ⟨⟨h.ext.I, h.ext.keeps, h.ext.A, h.ext.mu⟩, h.F, h.keeps, h.grow, h.muold, rfl, fun b hb => (h.new b hb).imp id (fun h => Nat.le_trans hn h), h.size, h.os, h.tape, h.output⟩

def Fr.get : Fr → Nat → Option PV
  | [], _ => none
  | (k, x) :: r, t => if k = t then some x else Fr.get r t

def Fr.put (fr : Fr) (d : Option Tmp) (v : PV) : Fr :=
  match d with
  | some d => (d, v) :: fr
  | none => fr

def FR (E : Env) (c : Cx) (N : Nat) (fr : Fr) (tmps : Array Value) : Prop :=
  tmps.size = N ∧ ∀ t x, Fr.get fr t = some x → t < N ∧ V E c x (tmps.getD t undef)

inductive Ex where
  | normal
  | exit (id : Nat)
  | ret
  | pan (v : PV)

def ExOK (E : Env) (c : Cx) : Ex → Exit → Prop
  | .normal, .normal => True
  | .exit i, .exit j => i = j
  | .ret, .ret => True
  | .pan x, .panic ch => ∃ v, ch = [{ v := v, recovered := false }] ∧ V E c x v
  | _, _ => False

abbrev Post := Ex → Fr → Store → Prop

/-- What the machine must come to for a postcondition of the logic's. -/
def Lift (E : Env) (N z : Nat) (ds : List Deferred) (cx : Cx) (Q : Post) (e : Exit) (a' : Act) (w' : World) : Prop :=
  ∃ ex fr' σ' cx', cx'.w = w' ∧ Q ex fr' σ' ∧ ExOK E cx' ex e ∧ Now E cx' σ' ∧ FR E cx' N fr' a'.tmps ∧ a'.defers = ds ∧ Step (cx.below z) cx'

/-- A piece of code, from a frame and a store on. -/
def T (E : Env) (N z : Nat) (c : Code) (Q : Post) (fr : Fr) (σ : Store) : Prop :=
  ∀ (cx : Cx) (a : Act), cx.top ≤ z → Now E cx σ → FR E cx N fr a.tmps → c.wp E.P (Lift E N z a.defers cx Q) a cx.w

inductive Re where
  | ret (x : PV)
  | pan (x : PV)

def ReOK (E : Env) (c : Cx) : Re → Ending → Prop
  | .ret x, .returned v => V E c x v
  | .pan x, .panicked ch => ∃ v, ch = [{ v := v, recovered := false }] ∧ V E c x v
  | _, _ => False

/-- A call of a function. -/
def C (E : Env) (f : FuncId) (args : List PV) (σ : Store) (R : Re → Store → Prop) : Prop :=
  ∀ (cx : Cx) (vs : Array Value), Now E cx σ → VL E cx args vs.toList →
    Calls E.P f vs cx.w fun e w' => ∃ re σ' cx', cx'.w = w' ∧ R re σ' ∧ ReOK E cx' re e ∧ Now E cx' σ' ∧ Step cx cx'

theorem Now.immI {E : Env} {c : Cx} {σ : Store} (h : Now E c σ) (k : Nat) (hk : c.I k) : k < c.w.heap.size := h.imm k (h.IF k hk)

theorem FR.step {E : Env} {c c' : Cx} {N : Nat} {fr : Fr} {tmps : Array Value} (h : FR E c N fr tmps) (s : Step c c') : FR E c' N fr tmps :=
  ⟨h.1, fun t x ht => ⟨(h.2 t x ht).1, (h.2 t x ht).2.ext s.ext⟩⟩

theorem Lift.step {E : Env} {N z : Nat} {ds : List Deferred} {c c' : Cx} {Q : Post} {e : Exit} {a : Act} {w : World} (s : Step (c.below z) c') (h : Lift E N z ds c' Q e a w) : Lift E N z ds c Q e a w := by
  obtain ⟨ex, fr, σ, c2, h1, h2, h3, h4, h5, h6, h7⟩ := h
  exact ⟨ex, fr, σ, c2, h1, h2, h3, h4, h5, h6, s.transB h7⟩

theorem Lift.mono {E : Env} {N z : Nat} {ds : List Deferred} {c : Cx} {Q Q' : Post} {e : Exit} {a : Act} {w : World} (q : ∀ e fr σ, Q e fr σ → Q' e fr σ) (h : Lift E N z ds c Q e a w) : Lift E N z ds c Q' e a w := by
  obtain ⟨ex, fr, σ, c2, h1, h2, h3, h4, h5, h6, h7⟩ := h
  exact ⟨ex, fr, σ, c2, h1, q _ _ _ h2, h3, h4, h5, h6, h7⟩

section
variable {E : Env} {N z : Nat} {Q Q' : Post} {fr : Fr} {σ : Store}

theorem T.mono {c : Code} (h : T E N z c Q fr σ) (q : ∀ e fr σ, Q e fr σ → Q' e fr σ) : T E N z c Q' fr σ :=
  fun cx a ht hn hf => wp_mono (h cx a ht hn hf) fun e a w => Lift.mono q

theorem C.mono {f : FuncId} {args : List PV} {R R' : Re → Store → Prop} (h : C E f args σ R) (q : ∀ re σ, R re σ → R' re σ) : C E f args σ R' :=
  fun cx vs hn hv => (h cx vs hn hv).mono fun e w ⟨re, σ', cx', h1, h2, h3⟩ => ⟨re, σ', cx', h1, q _ _ h2, h3⟩

theorem Lift.now {ds : List Deferred} {cx : Cx} {ex : Ex} {e : Exit} {a : Act} (ht : cx.top ≤ z) (hq : Q ex fr σ) (he : ExOK E cx ex e) (hn : Now E cx σ) (hf : FR E cx N fr a.tmps) (hd : a.defers = ds) :
    Lift E N z ds cx Q e a cx.w := ⟨ex, fr, σ, cx, rfl, hq, he, hn, hf, hd, (Step.refl cx).ofBelow ht⟩

theorem T_skip (h : Q .normal fr σ) : T E N z .skip Q fr σ := fun cx a ht hn hf => wp_skip (.now ht h (by simp [ExOK]) hn hf rfl)
theorem T_ret (h : Q .ret fr σ) : T E N z .ret Q fr σ := fun cx a ht hn hf => wp_ret (.now ht h (by simp [ExOK]) hn hf rfl)
theorem T_exit {id : Nat} (h : Q (.exit id) fr σ) : T E N z (.exit id) Q fr σ := fun cx a ht hn hf => wp_exit (.now ht h (by simp [ExOK]) hn hf rfl)

/-- Behind the first part the second. -/
def Post.seq (K : Fr → Store → Prop) (Q : Post) : Post
  | .normal, fr, σ => K fr σ
  | e, fr, σ => Q e fr σ
@[simp] theorem Post.seq_normal (K : Fr → Store → Prop) : Post.seq K Q .normal fr σ = K fr σ := rfl
@[simp] theorem Post.seq_exit (K : Fr → Store → Prop) (i : Nat) : Post.seq K Q (.exit i) fr σ = Q (.exit i) fr σ := rfl
@[simp] theorem Post.seq_ret (K : Fr → Store → Prop) : Post.seq K Q .ret fr σ = Q .ret fr σ := rfl
@[simp] theorem Post.seq_pan (K : Fr → Store → Prop) (v : PV) : Post.seq K Q (.pan v) fr σ = Q (.pan v) fr σ := rfl

theorem Lift.then {ds : List Deferred} {cx : Cx} {K : Fr → Store → Prop} {M : Act → World → Prop} {e : Exit} {a : Act} {w : World}
    (hM : ∀ (cx' : Cx) (a' : Act) fr' σ', K fr' σ' → Now E cx' σ' → FR E cx' N fr' a'.tmps → a'.defers = ds → Step (cx.below z) cx' → M a' cx'.w)
    (h : Lift E N z ds cx (Post.seq K Q) e a w) : Exit.then M (Lift E N z ds cx Q) e a w := by
  obtain ⟨ex, fr', σ', cx', rfl, h2, h3, h4, h5, h6, h7⟩ := h
  cases ex <;> cases e <;> simp only [ExOK] at h3 <;> try exact h3.elim
  · exact hM cx' a fr' σ' h2 h4 h5 h6 h7
  · exact ⟨_, fr', σ', cx', rfl, h2, h3, h4, h5, h6, h7⟩
  · exact ⟨_, fr', σ', cx', rfl, h2, trivial, h4, h5, h6, h7⟩
  · exact ⟨_, fr', σ', cx', rfl, h2, h3, h4, h5, h6, h7⟩

theorem T_seq {x y : Code} (h : T E N z x (Post.seq (T E N z y Q) Q) fr σ) : T E N z (.seq x y) Q fr σ := fun cx a ht hn hf =>
  wp_seq (wp_mono (h cx a ht hn hf) fun e a' w' hl => Lift.then (fun cx' a'' fr' σ' hk hn' hf' hd hs => by
    rw [← hd]; exact wp_mono (hk cx' a'' (hs.topB ▸ ht) hn' hf') fun e a w => Lift.step hs) hl)

theorem Fr.eval_tmp {cx : Cx} {a : Act} {t : Nat} {x : PV} (hf : FR E cx N fr a.tmps) (h : Fr.get fr t = some x) : V E cx x (a.eval (.tmp t)) := (hf.2 t x h).2

theorem V.bool_inv {cx : Cx} {b : Bool} {v : Value} (h : V E cx (.bool b) v) : v = .bool b := by
  cases h with
  | one h1 hn h hs => cases h; rfl

theorem T_cond {t : Nat} {x y : Code} {b : Bool} (hg : Fr.get fr t = some (.bool b)) (h1 : b = true → T E N z x Q fr σ) (h2 : b = false → T E N z y Q fr σ) :
    T E N z (.cond (.tmp t) x y) Q fr σ := fun cx a ht hn hf => by
  have := V.bool_inv (Fr.eval_tmp hf hg)
  cases b with
  | true => exact wp_cond_true this (h1 rfl cx a ht hn hf)
  | false => exact wp_cond_false this (h2 rfl cx a ht hn hf)

theorem T_condc {x y : Code} {b : Bool} (h1 : b = true → T E N z x Q fr σ) (h2 : b = false → T E N z y Q fr σ) :
    T E N z (.cond (.const (.bool b)) x y) Q fr σ := fun cx a ht hn hf => by
  cases b with
  | true => exact wp_cond_true rfl (h1 rfl cx a ht hn hf)
  | false => exact wp_cond_false rfl (h2 rfl cx a ht hn hf)

def Post.block (id : Nat) (Q : Post) : Post
  | .exit i, fr, σ => if i = id then Q .normal fr σ else Q (.exit i) fr σ
  | e, fr, σ => Q e fr σ
@[simp] theorem Post.block_normal (id : Nat) : Post.block id Q .normal fr σ = Q .normal fr σ := rfl
@[simp] theorem Post.block_exit (id i : Nat) : Post.block id Q (.exit i) fr σ = (if i = id then Q .normal fr σ else Q (.exit i) fr σ) := rfl
@[simp] theorem Post.block_ret (id : Nat) : Post.block id Q .ret fr σ = Q .ret fr σ := rfl
@[simp] theorem Post.block_pan (id : Nat) (v : PV) : Post.block id Q (.pan v) fr σ = Q (.pan v) fr σ := rfl

theorem T_block {id : Nat} {c : Code} (h : T E N z c (Post.block id Q) fr σ) : T E N z (.block id c) Q fr σ := fun cx a ht hn hf =>
  wp_block (wp_mono (h cx a ht hn hf) fun e a' w' hl => by
    obtain ⟨ex, fr', σ', cx', rfl, h2, h3, h4, h5, h6, h7⟩ := hl
    cases ex <;> cases e <;> simp only [ExOK] at h3 <;> try exact h3.elim
    · exact ⟨.normal, fr', σ', cx', rfl, h2, trivial, h4, h5, h6, h7⟩
    · subst h3
      simp only [Post.block_exit] at h2
      simp only [Exit.inBlock]
      split <;> rename_i hi
      · rw [if_pos hi] at h2
        exact ⟨.normal, fr', σ', cx', rfl, h2, trivial, h4, h5, h6, h7⟩
      · rw [if_neg hi] at h2
        exact ⟨.exit _, fr', σ', cx', rfl, h2, rfl, h4, h5, h6, h7⟩
    · exact ⟨.ret, fr', σ', cx', rfl, h2, trivial, h4, h5, h6, h7⟩
    · exact ⟨.pan _, fr', σ', cx', rfl, h2, h3, h4, h5, h6, h7⟩)

/-- At a loop's head. -/
def HeadW (P : Program) (c : Code) (Q : Exit → Act → World → Prop) (a : Act) (w : World) : Prop :=
  ∀ (b : Frame) (k : List Item) (cs : List Frame), ∃ e a' w', Q e a' w' ∧ Arrives P (lone (b.at a (.code c :: .inLoop c :: k)) cs w) b k cs e a' w'

theorem HeadW.mono {P : Program} {c : Code} {Q Q' : Exit → Act → World → Prop} {a : Act} {w : World} (h : HeadW P c Q a w) (q : ∀ e a w, Q e a w → Q' e a w) : HeadW P c Q' a w :=
  fun b k cs => let ⟨e, a', w', hq, ha⟩ := h b k cs; ⟨e, a', w', q _ _ _ hq, ha⟩

theorem HeadW.round {P : Program} {c : Code} {Q : Exit → Act → World → Prop} {a : Act} {w : World} (h : c.wp P (Exit.then (HeadW P c Q) Q) a w) : HeadW P c Q a w := by
  intro b k cs
  obtain ⟨e, a₁, w₁, hq, harr⟩ := h b (.inLoop c :: k) cs
  cases e with
  | normal =>
    obtain ⟨e₂, a₂, w₂, hq₂, harr₂⟩ := hq b k cs
    exact ⟨e₂, a₂, w₂, hq₂, .of_steps (Steps.trans harr (.one step_inLoop)) harr₂⟩
  | exit id => exact ⟨_, a₁, w₁, hq, .pass (x := .inLoop c) rfl (fun _ _ => .inl (by simp)) harr⟩
  | goto l => exact ⟨_, a₁, w₁, hq, .pass (x := .inLoop c) rfl (fun _ _ => .inl (by simp)) harr⟩
  | ret => exact ⟨_, a₁, w₁, hq, .pass (x := .inLoop c) rfl (fun _ _ => .inl (by simp)) harr⟩
  | panic ch => exact ⟨_, a₁, w₁, hq, .pass (x := .inLoop c) rfl (fun _ _ => .inl (by simp)) harr⟩
  | outgrown => exact ⟨_, a₁, w₁, hq, .pass (x := .inLoop c) rfl (fun _ _ => .inl (by simp)) harr⟩

theorem HeadW.loop {P : Program} {c : Code} {Q : Exit → Act → World → Prop} {a : Act} {w : World} (h : HeadW P c Q a w) : (Code.loop c).wp P Q a w := fun b k cs =>
  let ⟨e, a', w', hq, harr⟩ := h b k cs; ⟨e, a', w', hq, .of_steps (.one step_loop) harr⟩

/-- At a loop's head, in the logic. -/
def TL (E : Env) (N z : Nat) (c : Code) (Q : Post) (fr : Fr) (σ : Store) : Prop :=
  ∀ (cx : Cx) (a : Act), cx.top ≤ z → Now E cx σ → FR E cx N fr a.tmps → HeadW E.P c (Lift E N z a.defers cx Q) a cx.w

theorem T_loop {c : Code} (h : TL E N z c Q fr σ) : T E N z (.loop c) Q fr σ := fun cx a ht hn hf => (h cx a ht hn hf).loop

theorem TL_round {c : Code} (h : T E N z c (Post.seq (TL E N z c Q) Q) fr σ) : TL E N z c Q fr σ := fun cx a ht hn hf =>
  .round (wp_mono (h cx a ht hn hf) fun e a' w' hl => Lift.then (fun cx' a'' fr' σ' hk hn' hf' hd hs => by
    rw [← hd]; exact (hk cx' a'' (hs.topB ▸ ht) hn' hf').mono fun e a w => Lift.step hs) hl)

theorem TL.mono {c : Code} (h : TL E N z c Q fr σ) (q : ∀ e fr σ, Q e fr σ → Q' e fr σ) : TL E N z c Q' fr σ :=
  fun cx a ht hn hf => (h cx a ht hn hf).mono fun e a w => Lift.mono q

/-- Fewer temporaries. -/
def Fr.keep (ts : List Nat) (fr : Fr) : Fr := ts.filterMap fun t => (Fr.get fr t).map fun x => (t, x)

theorem Fr.get_keep : ∀ (ts : List Nat) (fr : Fr) (t : Nat) (x : PV), Fr.get (Fr.keep ts fr) t = some x → Fr.get fr t = some x
  | [], fr, t, x, h => by simp [Fr.keep, Fr.get] at h
  | u :: ts, fr, t, x, h => by
    simp only [Fr.keep, List.filterMap_cons] at h
    cases hu : Fr.get fr u with
    | none => simp only [hu, Option.map_none] at h; exact Fr.get_keep ts fr t x h
    | some y =>
      simp only [hu, Option.map_some, Fr.get] at h
      split at h
      · rename_i e; subst e; rw [hu]; exact h
      · exact Fr.get_keep ts fr t x h

theorem FR.keep {cx : Cx} {tmps : Array Value} (ts : List Nat) (h : FR E cx N fr tmps) : FR E cx N (Fr.keep ts fr) tmps :=
  ⟨h.1, fun t x ht => h.2 t x (Fr.get_keep ts fr t x ht)⟩

theorem T_keep {c : Code} (ts : List Nat) (h : T E N z c Q (Fr.keep ts fr) σ) : T E N z c Q fr σ := fun cx a ht hn hf => h cx a ht hn (hf.keep ts)
theorem TL_keep {c : Code} (ts : List Nat) (h : TL E N z c Q (Fr.keep ts fr) σ) : TL E N z c Q fr σ := fun cx a ht hn hf => h cx a ht hn (hf.keep ts)
end

end Go.Proofs.Ythllcknfidnfaaa
