/- Pure values; a call of values alone; what falls away behind a round. -/
import Derived.Test.YthllcknfidnfaaaSq
set_option linter.unusedVariables false
set_option linter.unusedSimpArgs false
namespace Go.Proofs.Ythllcknfidnfaaa
open Go

mutual
/-- A value without a block of the store in it. -/
def pureB : PV → Bool
  | .ptr .. => false
  | .ref .. => false
  | .map _ => false
  | .undef => false
  | .laddr x => pureB x
  | .fn _ a b => pureL a && pureL b
  | .iface _ x => pureB x
  | .agg _ fs => pureL fs
  | .tup vs => pureL vs
  | _ => true
def pureL : List PV → Bool
  | [] => true
  | x :: xs => pureB x && pureL xs
end

mutual
/-- A value whose blocks are all below a number. -/
def belowB (n : Nat) : PV → Bool
  | .ptr b .. => decide (b < n)
  | .ref b .. => decide (b < n)
  | .map b => decide (b < n)
  | .laddr x => belowB n x
  | .fn _ a b => belowL n a && belowL n b
  | .iface _ x => belowB n x
  | .agg _ fs => belowL n fs
  | .tup vs => belowL n vs
  | _ => true
def belowL (n : Nat) : List PV → Bool
  | [] => true
  | x :: xs => belowB n x && belowL n xs
end

mutual
theorem VC.lower {E : Env} {c c' : Cx} {n : Nat} {x : PV} {cs : List Value} (h : VC E c x cs) (hp : belowB n x = true) (hI : ∀ k, c.I k → c'.I k) (hw : ∀ k, c.I k → c'.w.heap[k]? = c.w.heap[k]?) (hA : ∀ b, c.A b → b < n → c'.A b) (hmu : ∀ b m, c'.mu b = some m → c.mu b = some m) : VC E c' x cs :=
  match h with
  | .bool b => .bool b
  | .int k n => .int k n
  | .str s => .str s
  | .nilp => .nilp
  | .ptr b g i p v h1 hb hle h => .ptr b g i p v h1 (hA b hb (by simpa [belowB] using hp)) (fun m' hm => hle m' (hmu b m' hm)) fun m' hm hg => h m' (hmu b m' hm) hg
  | .laddr x k o cs ca t fz hIk hwk hx hwin => .laddr x k o cs ca t fz (hI _ hIk) ((hw _ hIk).trans hwk) (hx.lower (by simpa [belowB] using hp) hI hw hA hmu) hwin
  | .nils a => .nils a
  | .lit0 a n => .lit0 a n
  | .lit xs T k o cap cs ca t fz hIk hwk hx hwin hcap => .lit xs T k o cap cs ca t fz (hI _ hIk) ((hw _ hIk).trans hwk) (hx.ext ⟨hI, hw, fun _ h => h.elim, fun _ h => h.elim⟩) hwin hcap
  | .ref b g off len v h1 hb hle h => .ref b g off len v h1 (hA b hb (by simpa [belowB] using hp)) (fun m' hm => hle m' (hmu b m' hm)) fun m' hm hg => h m' (hmu b m' hm) hg
  | .nilm => .nilm
  | .map b v h1 hb h => .map b v h1 (hA b hb (by simpa [belowB] using hp)) fun m' hm hg => h m' (hmu b m' hm) hg
  | .nilf => .nilf
  | .fn f first cap vs us h1 h2 => by
    simp only [belowB, Bool.and_eq_true] at hp
    exact .fn f first cap vs us (h1.lower hp.1 hI hw hA hmu) (h2.lower hp.2 hI hw hA hmu)
  | .nili => .nili
  | .ifaceA t u fs cs h => .ifaceA t u fs cs (h.lower (by simpa [belowB] using hp) hI hw hA hmu)
  | .ifaceS t x v h1 h => .ifaceS t x v h1 (h.lower (by simpa [belowB] using hp) hI hw hA hmu)
  | .agg t fs cs h => .agg t fs cs (h.lower (by simpa [belowB] using hp) hI hw hA hmu)
theorem VCs.lower {E : Env} {c c' : Cx} {n : Nat} {Ts : List TypeId} {xs : List PV} {cs : List Value} (h : VCs E c Ts xs cs) (hp : belowL n xs = true) (hI : ∀ k, c.I k → c'.I k) (hw : ∀ k, c.I k → c'.w.heap[k]? = c.w.heap[k]?) (hA : ∀ b, c.A b → b < n → c'.A b) (hmu : ∀ b m, c'.mu b = some m → c.mu b = some m) : VCs E c' Ts xs cs :=
  match h with
  | .nil => .nil
  | .cons hf h hs => by
    simp only [belowL, Bool.and_eq_true] at hp
    exact .cons hf (h.lower hp.1 hI hw hA hmu) (hs.lower hp.2 hI hw hA hmu)
theorem VL.lower {E : Env} {c c' : Cx} {n : Nat} {xs : List PV} {vs : List Value} (h : VL E c xs vs) (hp : belowL n xs = true) (hI : ∀ k, c.I k → c'.I k) (hw : ∀ k, c.I k → c'.w.heap[k]? = c.w.heap[k]?) (hA : ∀ b, c.A b → b < n → c'.A b) (hmu : ∀ b m, c'.mu b = some m → c.mu b = some m) : VL E c' xs vs :=
  match h with
  | .nil => .nil
  | .undef hs => by
    simp only [belowL, Bool.and_eq_true] at hp
    exact .undef (hs.lower hp.2 hI hw hA hmu)
  | .one h1 hn h hs => by
    simp only [belowL, Bool.and_eq_true] at hp
    exact .one h1 hn (h.lower hp.1 hI hw hA hmu) (hs.lower hp.2 hI hw hA hmu)
  | .agg h hs => by
    simp only [belowL, belowB, Bool.and_eq_true] at hp
    exact .agg (h.lower (by simpa [belowB] using hp.1) hI hw hA hmu) (hs.lower hp.2 hI hw hA hmu)
  | .tup h hs => by
    simp only [belowL, belowB, Bool.and_eq_true] at hp
    exact .tup (h.lower hp.1 hI hw hA hmu) (hs.lower hp.2 hI hw hA hmu)
end

mutual
theorem below_of_pure (n : Nat) : ∀ (x : PV), pureB x = true → belowB n x = true
  | .fn _ a b, h => by
    simp only [pureB, Bool.and_eq_true] at h
    simp [belowB, belowL_of_pure n a h.1, belowL_of_pure n b h.2]
  | .iface _ x, h => by simpa [belowB] using below_of_pure n x (by simpa [pureB] using h)
  | .agg _ fs, h => by simpa [belowB] using belowL_of_pure n fs (by simpa [pureB] using h)
  | .tup vs, h => by simpa [belowB] using belowL_of_pure n vs (by simpa [pureB] using h)
  | .ptr .., h => by simp [pureB] at h
  | .ref .., h => by simp [pureB] at h
  | .map _, h => by simp [pureB] at h
  | .undef, h => by simp [pureB] at h
  | .bool _, _ => rfl
  | .int _ _, _ => rfl
  | .str _, _ => rfl
  | .nilp, _ => rfl
  | .laddr x, h => by simp only [pureB] at h; simp only [belowB]; exact below_of_pure n x h
  | .nils, _ => rfl
  | .lit _, _ => rfl
  | .nilm, _ => rfl
  | .nilf, _ => rfl
  | .nili, _ => rfl
theorem belowL_of_pure (n : Nat) : ∀ (xs : List PV), pureL xs = true → belowL n xs = true
  | [], _ => rfl
  | x :: xs, h => by
    simp only [pureL, Bool.and_eq_true] at h
    simp [belowL, below_of_pure n x h.1, belowL_of_pure n xs h.2]
end

theorem pureL_map {α : Type} (f : α → PV) (hf : ∀ a, pureB (f a) = true) : ∀ l : List α, pureL (l.map f) = true
  | [] => rfl
  | a :: l => by simp [pureL, hf a, pureL_map f hf l]
theorem pureL_app : ∀ (l k : List PV), pureL (l ++ k) = (pureL l && pureL k)
  | [], k => rfl
  | x :: l, k => by simp [pureL, pureL_app l k, Bool.and_assoc]
theorem belowL_app (n : Nat) : ∀ (l k : List PV), belowL n (l ++ k) = (belowL n l && belowL n k)
  | [], k => rfl
  | x :: l, k => by simp [belowL, belowL_app n l k, Bool.and_assoc]

/-- A value as one that nobody writes any more. -/
def frz (σ : Store) : Nat → PV → Option PV
  | 0, _ => none
  | n + 1, x => match x with
    | .nils => some (.lit [])
    | .ref b g off len => match Store.at σ b with
      | some (.cells ty g' xs) => if g' = g ∧ off + len ≤ xs.length then (((xs.drop off).take len).mapM (frz σ n)).map .lit else none
      | _ => none
    | .agg t fs => (fs.mapM (frz σ n)).map (.agg t)
    | .tup vs => (vs.mapM (frz σ n)).map .tup
    | .ptr .. => none
    | .map _ => none
    | .undef => none
    | .fn f a b => if pureL a && pureL b then some (.fn f a b) else none
    | .iface t y => if pureB y then some (.iface t y) else none
    | .laddr y => if pureB y then some (.laddr y) else none
    | x => some x

theorem mapM_some {α β : Type} {f : α → Option β} : ∀ {l : List α} {r : List β}, l.mapM f = some r → r.length = l.length ∧ ∀ (i : Nat) (a : α), l[i]? = some a → ∃ b, f a = some b ∧ r[i]? = some b
  | [], r, h => by simp at h; subst h; exact ⟨rfl, fun i a h => by simp at h⟩
  | x :: l, r, h => by
    simp only [List.mapM_cons] at h
    obtain ⟨y, hy, h⟩ := Option.bind_eq_some_iff.1 h
    obtain ⟨ys, hys, h⟩ := Option.bind_eq_some_iff.1 h
    simp only [Option.pure_def, Option.some.injEq] at h; subst h
    obtain ⟨h1, h2⟩ := mapM_some hys
    refine ⟨by simp [h1], fun i a ha => ?_⟩
    cases i with
    | zero => simp at ha; subst ha; exact ⟨y, hy, rfl⟩
    | succ i => simpa using h2 i a (by simpa using ha)

theorem mapM_same {α : Type} {f : α → Option α} : ∀ {l : List α}, (∀ a ∈ l, f a = some a) → l.mapM f = some l
  | [], _ => by simp
  | x :: l, h => by
    have ih := mapM_same (f := f) (l := l) fun a ha => h a (by simp [ha])
    simp only [List.mapM_cons, h x (by simp), ih]; rfl

theorem fits_frz {E : Env} {σ : Store} {n : Nat} {x y : PV} {T : TypeId} (h : frz σ n x = some y) (hf : fits E T x = true) : fits E T y = true := by
  cases n with
  | zero => simp [frz] at h
  | succ n =>
    unfold frz at h
    split at h
    · simp only [Option.some.injEq] at h; subst h; simpa [fits] using hf
    · split at h
      · split at h
        · obtain ⟨ys, _, rfl⟩ := Option.map_eq_some_iff.1 h; simpa [fits] using hf
        · simp at h
      · simp at h
    · obtain ⟨ys, _, rfl⟩ := Option.map_eq_some_iff.1 h; simpa [fits] using hf
    · simp [fits] at hf
    · simp at h
    · simp at h
    · simp at h
    · split at h
      · simp only [Option.some.injEq] at h; subst h; exact hf
      · simp at h
    · split at h
      · simp only [Option.some.injEq] at h; subst h; exact hf
      · simp at h
    · split at h
      · simp only [Option.some.injEq] at h; subst h; exact hf
      · simp at h
    · simp only [Option.some.injEq] at h; subst h; exact hf

/-- The moment when all that lives is frozen. -/
def Cx.frozen (c : Cx) : Cx := { c with I := fun k => c.I k ∨ ∃ b m, c.mu b = some m ∧ m.blk = k, mu := fun _ => none, A := fun _ => False }

theorem VC.pureF {E : Env} {c : Cx} {x : PV} {cs : List Value} (h : VC E c x cs) (hp : pureB x = true) : VC E c.frozen x cs :=
  h.lower (n := 0) (below_of_pure 0 x hp) (fun _ h => .inl h) (fun _ _ => rfl) (fun _ _ h => absurd h (by omega)) (fun _ _ h => by simp [Cx.frozen] at h)
theorem VL.pureF {E : Env} {c : Cx} {x : List PV} {cs : List Value} (h : VL E c x cs) (hp : pureL x = true) : VL E c.frozen x cs :=
  h.lower (n := 0) (belowL_of_pure 0 x hp) (fun _ h => .inl h) (fun _ _ => rfl) (fun _ _ h => absurd h (by omega)) (fun _ _ h => by simp [Cx.frozen] at h)

theorem VCs.frz {E : Env} {c c' : Cx} {f : PV → Option PV} (hf : ∀ x y cs, VC E c x cs → f x = some y → VC E c' y cs) (hfit : ∀ T x y, f x = some y → fits E T x = true → fits E T y = true) :
    ∀ {Ts : List TypeId} {xs ys : List PV} {cs : List Value}, VCs E c Ts xs cs → xs.mapM f = some ys → VCs E c' Ts ys cs
  | _, _, ys, _, .nil, h => by simp at h; subst h; exact .nil
  | _, _, ys, _, .cons hfi hx hs, h => by
    simp only [List.mapM_cons] at h
    obtain ⟨y, hy, h⟩ := Option.bind_eq_some_iff.1 h
    obtain ⟨zs, hzs, h⟩ := Option.bind_eq_some_iff.1 h
    simp only [Option.pure_def, Option.some.injEq] at h; subst h
    exact .cons (hfit _ _ _ hy hfi) (hf _ _ _ hx hy) (VCs.frz hf hfit hs hzs)

theorem frz_VC {E : Env} (O : E.OK) {c : Cx} {σ : Store} (hn : Now E c σ) : ∀ (n : Nat) (x y : PV) (cs : List Value), VC E c x cs → frz σ n x = some y → VC E c.frozen y cs
  | 0, x, y, cs, h, hf => by simp [frz] at hf
  | n + 1, x, y, cs, h, hf => by
    have ih := frz_VC O hn n
    unfold frz at hf
    split at hf
    · simp only [Option.some.injEq] at hf; subst hf
      cases h with | nils a => exact .lit0 a 0
    · rename_i b g off len
      split at hf
      · rename_i ty g' xs hb
        split at hf
        · rename_i hc
          obtain ⟨rfl, hl⟩ := hc
          obtain ⟨ys, hys, rfl⟩ := Option.map_eq_some_iff.1 hf
          cases h with
          | ref _ _ _ _ v h1 hA hle hr =>
            obtain ⟨m, ca, el, fz, cs, j1, j2, j3, j4, j5, j6, j7, j8, j9⟩ := hn.blk hb
            obtain ⟨a, cap, rfl, hcap, hh⟩ := hr m j1 j2
            obtain ⟨hlen, _⟩ := mapM_some hys
            have hxl : ((xs.drop off).take len).length = len := by simp; omega
            have hyl : ys.length = len := by rw [hlen, hxl]
            rcases hh with rfl | ⟨rfl, hfit⟩
            · have h0 : len = 0 := by omega
              subst h0
              have : ys = [] := List.eq_nil_of_length_eq_zero hyl
              subst this
              exact .lit0 a 0
            · have v1 : VR E c ty xs cs := j6
              have v2 := (v1.drop O.toFine off).take O.toFine len
              have v3 : VCs E c.frozen (List.replicate ((xs.drop off).take len).length ty) ys _ := VCs.frz (fun x y cs => ih x y cs) (fun T x y h hf => fits_frz h hf) v2 hys
              have hw2 := LW.win j7 ((LW_drop cs (off * E.size ty)).trans (LW_take (cs.drop (off * E.size ty)) (len * E.size ty)))
              simp only [Nat.add_zero] at hw2
              have v4 : VCs E c.frozen.pure (List.replicate ys.length ty) ys (List.take (len * E.size ty) (List.drop (off * E.size ty) cs)) := by rw [hlen]; exact v3
              have := VC.lit (E := E) (c := c.frozen) ys ty m.blk (m.base + off * E.size ty) cap _ ca el fz (.inr ⟨b, m, j1, rfl⟩) j4 v4 hw2 (by omega)
              rw [hyl] at this; rw [j3]; exact this
        · simp at hf
      · simp at hf
    · obtain ⟨ys, hys, rfl⟩ := Option.map_eq_some_iff.1 hf
      cases h with
      | agg _ _ _ h => exact .agg _ _ _ (VCs.frz (fun x y cs => ih x y cs) (fun T x y h hf => fits_frz h hf) h hys)
    · cases h
    · simp at hf
    · simp at hf
    · simp at hf
    · split at hf
      · rename_i hp
        simp only [Option.some.injEq] at hf; subst hf
        exact h.pureF (by simpa [pureB] using hp)
      · simp at hf
    · split at hf
      · rename_i hp
        simp only [Option.some.injEq] at hf; subst hf
        exact h.pureF (by simpa [pureB] using hp)
      · simp at hf
    · split at hf
      · rename_i hp
        simp only [Option.some.injEq] at hf; subst hf
        exact h.pureF (by simpa [pureB] using hp)
      · simp at hf
    · rename_i h1 h2 h3 h4 h5 h6 h7 h8 h9 h10
      simp only [Option.some.injEq] at hf; subst hf
      refine h.pureF ?_
      cases x <;> first | rfl | exact (h5 _ _ _ _ rfl).elim | exact (h2 _ _ _ _ rfl).elim | (simp_all; done)

theorem frz_agg {σ : Store} {n : Nat} {x : PV} {t : TypeId} {fs : List PV} (h : frz σ n x = some (.agg t fs)) : ∃ gs, x = .agg t gs := by
  cases n with
  | zero => simp [frz] at h
  | succ n =>
    unfold frz at h
    split at h <;> (try (split at h)) <;> (try (split at h)) <;> simp only [Option.map_eq_some_iff, Option.some.injEq, reduceCtorEq, and_false, exists_false, PV.agg.injEq] at h
    all_goals first
      | (obtain ⟨ys, _, rfl, rfl⟩ := h; exact ⟨_, rfl⟩)
      | (subst h; exact ⟨_, rfl⟩)

theorem VL.frz1 {E : Env} (O : E.OK) {c : Cx} {σ : Store} (hn : Now E c σ) : ∀ (n : Nat) {xs ys : List PV} {vs : List Value}, VL E c xs vs → xs.mapM (Proofs.Ythllcknfidnfaaa.frz σ n) = some ys → VL E c.frozen ys vs
  | n, _, ys, _, .nil, h => by simp at h; subst h; exact .nil
  | n, _, ys, _, .undef hs, h => by
    simp only [List.mapM_cons] at h
    obtain ⟨y, hy, h⟩ := Option.bind_eq_some_iff.1 h
    cases n <;> simp [Proofs.Ythllcknfidnfaaa.frz] at hy
  | n, _, ys, _, .one (x := x) h1 hnx hv hs, h => by
    simp only [List.mapM_cons] at h
    obtain ⟨y, hy, h⟩ := Option.bind_eq_some_iff.1 h
    obtain ⟨zs, hzs, h⟩ := Option.bind_eq_some_iff.1 h
    simp only [Option.pure_def, Option.some.injEq] at h; subst h
    refine .one h1 (fun t fs e => ?_) (frz_VC O hn n _ _ _ hv hy) (hs.frz1 O hn n hzs)
    subst e
    obtain ⟨gs, rfl⟩ := frz_agg hy
    exact hnx _ _ rfl
  | n, _, ys, _, .agg hv hs, h => by
    simp only [List.mapM_cons] at h
    obtain ⟨y, hy, h⟩ := Option.bind_eq_some_iff.1 h
    obtain ⟨zs, hzs, h⟩ := Option.bind_eq_some_iff.1 h
    simp only [Option.pure_def, Option.some.injEq] at h; subst h
    have := frz_VC O hn n _ _ _ hv hy
    cases n with
    | zero => simp [Proofs.Ythllcknfidnfaaa.frz] at hy
    | succ n =>
      simp only [Proofs.Ythllcknfidnfaaa.frz] at hy
      obtain ⟨fs', _, rfl⟩ := Option.map_eq_some_iff.1 hy
      exact .agg this (hs.frz1 O hn (n + 1) hzs)
  | 0, _, ys, _, .tup hv hs, h => by
    simp only [List.mapM_cons] at h
    obtain ⟨y, hy, h⟩ := Option.bind_eq_some_iff.1 h
    simp [Proofs.Ythllcknfidnfaaa.frz] at hy
  | n + 1, _, ys, _, .tup hv hs, h => by
    simp only [List.mapM_cons] at h
    obtain ⟨y, hy, h⟩ := Option.bind_eq_some_iff.1 h
    obtain ⟨zs, hzs, h⟩ := Option.bind_eq_some_iff.1 h
    simp only [Option.pure_def, Option.some.injEq] at h; subst h
    simp only [Proofs.Ythllcknfidnfaaa.frz] at hy
    obtain ⟨us, hus, rfl⟩ := Option.map_eq_some_iff.1 hy
    exact .tup (hv.frz1 O hn n hus) (hs.frz1 O hn (n + 1) hzs)

theorem V.frz {E : Env} (O : E.OK) {c : Cx} {σ : Store} (hn : Now E c σ) {n : Nat} {x y : PV} {v : Value} (h : V E c x v) (hf : Proofs.Ythllcknfidnfaaa.frz σ n x = some y) : V E c.frozen y v :=
  VL.frz1 O hn n h (by simp [hf])

/-- What a call of values alone hands back, frozen. -/
def frzRe (σ : Store) (R : Re → Store → Prop) (re : Re) (σ' : Store) : Prop :=
  match re with
  | .ret r => (match frz σ' 6 r with | some y => R (.ret y) σ | none => False)
  | .pan r => (match frz σ' 6 r with | some y => R (.pan y) σ | none => False)

/-- A call of values alone: it may be walked over a store of its own. -/
theorem C_pure {E : Env} (O : E.OK) {f : FuncId} {args : List PV} {σ : Store} {R : Re → Store → Prop} (hp : pureL args = true) (h : C E f args [] (frzRe σ R)) : C E f args σ R := fun cx vs hn hv => by
  let cx0 : Cx := { cx with F := fun k => cx.F k ∨ ∃ b m, cx.mu b = some m ∧ m.blk = k, mu := fun _ => none, A := fun _ => False, top := 0 }
  have hn0 : Now E cx0 [] := ⟨Nat.le_refl _, fun b h => h.elim, fun k h => .inl (hn.IF k h), fun k h => by
    rcases h with h | ⟨b, m, h1, h2⟩
    · exact hn.imm k h
    · obtain ⟨_, _, h3, _⟩ := hn.dom b m h1; exact h2 ▸ h3, fun b m h => by simp [cx0] at h, fun b blk h => by simp at h, fun b b' m m' h => by simp [cx0] at h, fun b m h => by simp [cx0] at h⟩
  have hv0 : VL E cx0 args vs.toList := hv.lower (n := 0) (belowL_of_pure 0 args hp) (fun _ h => h) (fun _ _ => rfl) (fun _ _ h => absurd h (by omega)) (fun _ _ h => by simp [cx0] at h)
  refine (h cx0 vs hn0 hv0).mono ?_
  rintro e w' ⟨re, σ1, cx1, rfl, h2, h3, h4, h5⟩
  let cx' : Cx := { cx with I := cx1.frozen.I, F := fun k => cx.F k ∨ cx1.frozen.I k, w := cx1.w }
  have hIlive : ∀ b m, cx.mu b = some m → ¬ cx1.frozen.I m.blk := fun b m hm hI => by
    obtain ⟨_, _, hlt, hF, _⟩ := hn.dom b m hm
    rcases hI with h | ⟨x, mx, hx, he⟩
    · rcases h5.grow _ h with h | h | ⟨x, mx, hx, _⟩
      · exact hF (hn.IF _ h)
      · exact absurd hlt (by show ¬ _ < _; exact Nat.not_lt.2 h)
      · simp [cx0] at hx
    · rcases h5.muold x mx hx with h | ⟨y, my, hy, _⟩
      · rw [he] at h; exact absurd hlt (Nat.not_lt.2 h)
      · simp [cx0] at hy
  have hIlt : ∀ k, cx1.frozen.I k → k < cx1.w.heap.size := fun k h => by
    rcases h with h | ⟨x, mx, hx, he⟩
    · exact h4.immI k h
    · obtain ⟨_, _, h, _⟩ := h4.dom x mx hx; exact he ▸ h
  have hext : Ext cx cx' := ⟨fun k hk => .inl (h5.ext.I k hk), fun k hk => h5.keeps k (.inl (hn.IF k hk)), fun b h => h, fun b hb m h => ⟨m, h, Nat.le_refl _, fun _ => rfl⟩⟩
  have hn' : Now E cx' σ := ⟨hn.top, hn.A, fun k h => .inr h, fun k h => by
      rcases h with h | h
      · exact Nat.lt_of_lt_of_le (hn.imm k h) h5.size
      · exact hIlt k h, fun b m hm => by
      obtain ⟨blk, k1, k2, k3, k4⟩ := hn.dom b m hm
      refine ⟨blk, k1, Nat.lt_of_lt_of_le k2 h5.size, ?_, k4.ext hext (h5.keeps _ (.inr ⟨b, m, hm, rfl⟩))⟩
      rintro (h | h)
      · exact k3 h
      · exact hIlive b m hm h, hn.live, hn.inj, hn.base⟩
  have hs' : Step cx cx' := ⟨hext, fun k h => .inl h, fun k hk => h5.keeps k (.inl hk), fun k hk => by
      rcases hk with h | ⟨x, mx, hx, he⟩
      · rcases h5.grow _ h with h | h | ⟨x, mx, hx, _⟩
        · exact .inl h
        · exact .inr (.inl h)
        · simp [cx0] at hx
      · rcases h5.muold x mx hx with h | ⟨y, my, hy, _⟩
        · exact .inr (.inl (he ▸ h))
        · simp [cx0] at hy, fun b m hm => .inr ⟨b, m, hm, rfl⟩, rfl, fun _ h => .inl h, h5.size, h5.os, h5.tape, h5.output⟩
  have hx1 : Ext cx1.frozen cx' := ⟨fun k h => h, fun _ _ => rfl, fun _ h => h.elim, fun _ h => h.elim⟩
  cases re with
  | ret r =>
    cases e <;> simp only [ReOK] at h3
    simp only [frzRe] at h2
    split at h2
    · rename_i y hy
      exact ⟨.ret y, σ, cx', rfl, h2, (h3.frz O h4 hy).ext hx1, hn', hs'⟩
    · exact h2.elim
  | pan r =>
    cases e <;> simp only [ReOK] at h3
    simp only [frzRe] at h2
    obtain ⟨v, hch, h3⟩ := h3
    split at h2
    · rename_i y hy
      exact ⟨.pan y, σ, cx', rfl, h2, ⟨v, hch, (h3.frz O h4 hy).ext hx1⟩, hn', hs'⟩
    · exact h2.elim

end Go.Proofs.Ythllcknfidnfaaa
