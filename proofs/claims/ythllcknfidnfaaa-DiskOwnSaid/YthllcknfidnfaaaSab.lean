/- What a call has laid anew, frozen: closures over variables that nobody writes, and the like. -/
import Derived.Test.YthllcknfidnfaaaSaa
set_option linter.unusedVariables false
set_option linter.unusedSimpArgs false
namespace Go.Proofs.Ythllcknfidnfaaa
open Go

/-- A value in which the blocks from a number on are frozen. -/
def frzN (k : Nat) (σ : Store) : Nat → PV → Option PV
  | 0, _ => none
  | n + 1, x => match x with
    | .nils => some (.lit [])
    | .ptr b g i p => if b < k then some (.ptr b g i p) else (match p, Store.at σ b with
      | [], some (.cells ty g' xs) => if g' = g then (match xs[i]? with | some e => (frzN k σ n e).map .laddr | none => none) else none
      | _, _ => none)
    | .ref b g off len => if b < k then some (.ref b g off len) else (match Store.at σ b with
      | some (.cells ty g' xs) => if g' = g ∧ off + len ≤ xs.length then (match ((xs.drop off).take len).mapM (frzN k σ n) with | some ys => if pureL ys then some (.lit ys) else none | none => none) else none
      | _ => none)
    | .map b => if b < k then some (.map b) else none
    | .agg t fs => (fs.mapM (frzN k σ n)).map (.agg t)
    | .fn f a b => match a.mapM (frzN k σ n), b.mapM (frzN k σ n) with | some a', some b' => some (.fn f a' b') | _, _ => none
    | .tup _ => none
    | .undef => none
    | .iface t y => if belowB k y then some (.iface t y) else none
    | .laddr y => if belowB k y then some (.laddr y) else none
    | x => some x
def frzT (k : Nat) (σ : Store) : PV → Option PV
  | .tup vs => (vs.mapM (frzN k σ 6)).map .tup
  | x => frzN k σ 6 x

/-- The moment when all that is new is frozen. -/
def Cx.frzNew (c : Cx) (k : Nat) : Cx := { c with I := fun j => c.I j ∨ ∃ b m, k ≤ b ∧ c.mu b = some m ∧ m.blk = j, F := fun j => c.F j ∨ ∃ b m, k ≤ b ∧ c.mu b = some m ∧ m.blk = j, mu := fun b => if b < k then c.mu b else none, A := fun b => c.A b ∧ b < k }

section
variable {E : Env}

theorem frzNew_lower {c : Cx} {k : Nat} {x : PV} {cs : List Value} (h : VC E c x cs) (hp : belowB k x = true) : VC E (c.frzNew k) x cs :=
  h.lower hp (fun _ h => .inl h) (fun _ _ => rfl) (fun _ h1 h2 => ⟨h1, h2⟩) (fun b m h => by
    simp only [Cx.frzNew] at h
    split at h
    · exact h
    · simp at h)

theorem fits_frzN {k : Nat} {σ : Store} {n : Nat} {x y : PV} {T : TypeId} (h : frzN k σ n x = some y) (hf : fits E T x = true) : fits E T y = true := by
  cases n with
  | zero => simp [frzN] at h
  | succ n =>
    unfold frzN at h
    split at h
    · simp only [Option.some.injEq] at h; subst h; simpa [fits] using hf
    · split at h
      · simp only [Option.some.injEq] at h; subst h; exact hf
      · split at h
        · split at h
          · split at h
            · obtain ⟨ys, _, rfl⟩ := Option.map_eq_some_iff.1 h; simpa [fits] using hf
            · simp at h
          · simp at h
        · simp at h
    · split at h
      · simp only [Option.some.injEq] at h; subst h; exact hf
      · split at h
        · split at h
          · split at h
            · split at h
              · simp only [Option.some.injEq] at h; subst h; simpa [fits] using hf
              · simp at h
            · simp at h
          · simp at h
        · simp at h
    · split at h
      · simp only [Option.some.injEq] at h; subst h; exact hf
      · simp at h
    · obtain ⟨ys, _, rfl⟩ := Option.map_eq_some_iff.1 h; simpa [fits] using hf
    · split at h
      · simp only [Option.some.injEq] at h; subst h; simpa [fits] using hf
      · simp at h
    · simp at h
    · simp at h
    · split at h
      · simp only [Option.some.injEq] at h; subst h; exact hf
      · simp at h
    · split at h
      · simp only [Option.some.injEq] at h; subst h; exact hf
      · simp at h
    · simp only [Option.some.injEq] at h; subst h; exact hf

theorem frzN_agg {k : Nat} {σ : Store} {n : Nat} {x : PV} {t : TypeId} {fs : List PV} (h : frzN k σ n x = some (.agg t fs)) : ∃ gs, x = .agg t gs := by
  cases n with
  | zero => simp [frzN] at h
  | succ n =>
    cases x <;> simp only [frzN] at h <;> first
      | exact ⟨_, by obtain ⟨ys, _, e⟩ := Option.map_eq_some_iff.1 h; simp only [PV.agg.injEq] at e; rw [e.1]⟩
      | (simp at h; done)
      | (exfalso; split at h <;> first
          | (simp at h; done)
          | (split at h <;> first
              | (simp at h; done)
              | (split at h <;> first
                  | (simp at h; done)
                  | (split at h <;> first
                      | (simp at h; done)
                      | (simp [Option.map_eq_some_iff] at h; done)
                      | (split at h <;> simp at h)))))

theorem VL_frzN {c c' : Cx} {k : Nat} {σ : Store} {n : Nat} (hf : ∀ x y cs, VC E c x cs → frzN k σ n x = some y → VC E c' y cs) : ∀ {xs ys : List PV} {vs : List Value}, VL E c xs vs → xs.mapM (frzN k σ n) = some ys → VL E c' ys vs
  | _, ys, _, .nil, h => by simp at h; subst h; exact .nil
  | _, ys, _, .undef hs, h => by
    simp only [List.mapM_cons] at h
    obtain ⟨y, hy, h⟩ := Option.bind_eq_some_iff.1 h
    cases n <;> simp [frzN] at hy
  | _, ys, _, .one (x := x) h1 hnx hv hs, h => by
    simp only [List.mapM_cons] at h
    obtain ⟨y, hy, h⟩ := Option.bind_eq_some_iff.1 h
    obtain ⟨zs, hzs, h⟩ := Option.bind_eq_some_iff.1 h
    simp only [Option.pure_def, Option.some.injEq] at h; subst h
    refine .one h1 (fun t fs e => ?_) (hf _ _ _ hv hy) (VL_frzN hf hs hzs)
    subst e
    obtain ⟨gs, rfl⟩ := frzN_agg hy
    exact hnx _ _ rfl
  | _, ys, _, .agg hv hs, h => by
    simp only [List.mapM_cons] at h
    obtain ⟨y, hy, h⟩ := Option.bind_eq_some_iff.1 h
    obtain ⟨zs, hzs, h⟩ := Option.bind_eq_some_iff.1 h
    simp only [Option.pure_def, Option.some.injEq] at h; subst h
    have := hf _ _ _ hv hy
    cases n with
    | zero => simp [frzN] at hy
    | succ n =>
      simp only [frzN] at hy
      obtain ⟨fs', _, rfl⟩ := Option.map_eq_some_iff.1 hy
      exact .agg this (VL_frzN hf hs hzs)
  | _, ys, _, .tup hv hs, h => by
    simp only [List.mapM_cons] at h
    obtain ⟨y, hy, h⟩ := Option.bind_eq_some_iff.1 h
    cases n <;> simp [frzN] at hy

theorem frzN_VC (O : E.OK) {c : Cx} {σ : Store} (k : Nat) (hn : Now E c σ) : ∀ (n : Nat) (x y : PV) (cs : List Value), VC E c x cs → frzN k σ n x = some y → VC E (c.frzNew k) y cs
  | 0, x, y, cs, h, hf => by simp [frzN] at hf
  | n + 1, x, y, cs, h, hf => by
    have ih := frzN_VC O k hn n
    unfold frzN at hf
    split at hf
    · simp only [Option.some.injEq] at hf; subst hf
      cases h with | nils a => exact .lit0 a 0
    · rename_i b g i p
      split at hf
      · rename_i hb
        simp only [Option.some.injEq] at hf; subst hf
        exact frzNew_lower h (by simpa [belowB] using hb)
      · rename_i hb
        split at hf
        · rename_i ty g' xs hat
          split at hf
          · rename_i hg; subst hg
            split at hf
            · rename_i e he
              obtain ⟨e', he', rfl⟩ := Option.map_eq_some_iff.1 hf
              cases h with
              | ptr _ _ _ _ v hv1 hA hle hr =>
                obtain ⟨m, ca, el, fz, ds, cs, h1, h2, h3, h4, h5, h6, h7, h8, h9, h10, h11, h12, h13⟩ := hn.place O (V_one (.ptr b g' i [] v hv1 hA hle hr) (by simp)) hat he
                subst h13
                simp only [pathOff, Nat.add_zero]
                have hw := LW.win h7 h12
                exact .laddr e' m.blk _ cs ca el fz (.inr ⟨b, m, by omega, h1, rfl⟩) h4 (ih _ _ _ h11 he') hw
            · simp at hf
          · simp at hf
        · simp at hf
    · rename_i b g off len
      split at hf
      · rename_i hb
        simp only [Option.some.injEq] at hf; subst hf
        exact frzNew_lower h (by simpa [belowB] using hb)
      · rename_i hb
        split at hf
        · rename_i ty g' xs hat
          split at hf
          · rename_i hc
            obtain ⟨rfl, hl⟩ := hc
            split at hf
            · rename_i ys hys
              split at hf
              · rename_i hp
                simp only [Option.some.injEq] at hf; subst hf
                cases h with
                | ref _ _ _ _ v h1 hA hle hr =>
                  obtain ⟨m, ca, el, fz, cs, j1, j2, j3, j4, j5, j6, j7, j8, j9⟩ := hn.blk hat
                  obtain ⟨a, cap, rfl, hcap, hh⟩ := hr m j1 j2
                  obtain ⟨hlen, _⟩ := mapM_some hys
                  have hxl : ((xs.drop off).take len).length = len := by simp; omega
                  have hyl : ys.length = len := by rw [hlen, hxl]
                  rcases hh with rfl | ⟨rfl, hfit⟩
                  · have h0 : len = 0 := by omega
                    subst h0
                    have : ys = [] := List.eq_nil_of_length_eq_zero hyl
                    subst this
                    exact .lit0 a 0
                  · have v1 : VR E c ty xs cs := j6
                    have v2 := (v1.drop O.toFine off).take O.toFine len
                    have v3 : VCs E (c.frzNew k) (List.replicate ((xs.drop off).take len).length ty) ys _ := VCs.frz (fun x y cs => ih x y cs) (fun T x y h hf => fits_frzN h hf) v2 hys
                    have hw2 := LW.win j7 ((LW_drop cs (off * E.size ty)).trans (LW_take (cs.drop (off * E.size ty)) (len * E.size ty)))
                    simp only [Nat.add_zero] at hw2
                    have v4 : VCs E (c.frzNew k).pure (List.replicate ys.length ty) ys (List.take (len * E.size ty) (List.drop (off * E.size ty) cs)) := by
                      rw [hlen]
                      exact v3.lower (n := 0) (belowL_of_pure 0 ys hp) (fun _ h => h) (fun _ _ => rfl) (fun _ _ h => absurd h (by omega)) (fun _ _ h => by simp [Cx.pure] at h)
                    have := VC.lit (E := E) (c := c.frzNew k) ys ty m.blk (m.base + off * E.size ty) cap _ ca el fz (.inr ⟨b, m, by omega, j1, rfl⟩) j4 v4 hw2 (by omega)
                    rw [hyl] at this; rw [j3]; exact this
              · simp at hf
            · simp at hf
          · simp at hf
        · simp at hf
    · split at hf
      · rename_i hb
        simp only [Option.some.injEq] at hf; subst hf
        exact frzNew_lower h (by simpa [belowB] using hb)
      · simp at hf
    · obtain ⟨ys, hys, rfl⟩ := Option.map_eq_some_iff.1 hf
      cases h with
      | agg _ _ _ h => exact .agg _ _ _ (VCs.frz (fun x y cs => ih x y cs) (fun T x y h hf => fits_frzN h hf) h hys)
    · split at hf
      · rename_i a' b' h1 h2
        simp only [Option.some.injEq] at hf; subst hf
        cases h with
        | fn _ _ _ vs us k1 k2 => exact .fn _ _ _ vs us (VL_frzN ih k1 h1) (VL_frzN ih k2 h2)
      · simp at hf
    · simp at hf
    · simp at hf
    · split at hf
      · rename_i hp
        simp only [Option.some.injEq] at hf; subst hf
        exact frzNew_lower h (by simpa [belowB] using hp)
      · simp at hf
    · split at hf
      · rename_i hp
        simp only [Option.some.injEq] at hf; subst hf
        exact frzNew_lower h (by simpa [belowB] using hp)
      · simp at hf
    · rename_i h1 h2 h3 h4 h5 h6 h7 h8 h9 h10
      simp only [Option.some.injEq] at hf; subst hf
      refine frzNew_lower h ?_
      cases x <;> first | rfl | exact (h1 rfl).elim | exact (h2 _ _ _ _ rfl).elim | exact (h3 _ _ _ _ rfl).elim | exact (h4 _ rfl).elim | exact (h5 _ _ rfl).elim | exact (h6 _ _ _ rfl).elim | exact (h7 _ rfl).elim | exact (h8 rfl).elim | exact (h9 _ _ rfl).elim | exact (h10 _ rfl).elim

theorem frzT_V (O : E.OK) {c : Cx} {σ : Store} (k : Nat) (hn : Now E c σ) {x y : PV} {v : Value} (h : V E c x v) (hf : frzT k σ x = some y) : V E (c.frzNew k) y v := by
  unfold frzT at hf
  split at hf
  · obtain ⟨ys, hys, rfl⟩ := Option.map_eq_some_iff.1 hf
    cases h with
    | one h1 hnx hv hs => cases hv
    | tup hv hs => exact .tup (VL_frzN (frzN_VC O k hn 6) hv hys) .nil
  · exact VL_frzN (frzN_VC O k hn 6) h (by simp [hf])

mutual
theorem VC.allB {c : Cx} {n : Nat} {x : PV} {cs : List Value} (h : VC E c x cs) (hA : ∀ b, c.A b → b < n) : Proofs.Ythllcknfidnfaaa.allB (fun b => decide (b < n)) x = true :=
  match h with
  | .bool b => rfl
  | .int k n => rfl
  | .str s => rfl
  | .nilp => rfl
  | .ptr b g i q v h1 hb hle h => by simp only [Proofs.Ythllcknfidnfaaa.allB]; exact decide_eq_true (hA b hb)
  | .laddr x k o cs ca t fz hIk hwk hx hwin => by simp only [Proofs.Ythllcknfidnfaaa.allB]; exact hx.allB hA
  | .nils a => rfl
  | .lit0 a n => rfl
  | .lit xs T k o cap cs ca t fz hIk hwk hx hwin hcap => rfl
  | .ref b g i q v h1 hb hle h => by simp only [Proofs.Ythllcknfidnfaaa.allB]; exact decide_eq_true (hA b hb)
  | .nilm => rfl
  | .map b v h1 hb h => by simp only [Proofs.Ythllcknfidnfaaa.allB]; exact decide_eq_true (hA b hb)
  | .nilf => rfl
  | .fn f first cap vs us h1 h2 => by simp only [Proofs.Ythllcknfidnfaaa.allB, h1.allL hA, h2.allL hA, Bool.and_true]
  | .nili => rfl
  | .ifaceA t u fs cs h => by simp only [Proofs.Ythllcknfidnfaaa.allB]; exact h.allB hA
  | .ifaceS t x v h1 h => by simp only [Proofs.Ythllcknfidnfaaa.allB]; exact h.allB hA
  | .agg t fs cs h => by simp only [Proofs.Ythllcknfidnfaaa.allB]; exact h.allL hA
theorem VCs.allL {c : Cx} {n : Nat} {Ts : List TypeId} {xs : List PV} {cs : List Value} (h : VCs E c Ts xs cs) (hA : ∀ b, c.A b → b < n) : Proofs.Ythllcknfidnfaaa.allL (fun b => decide (b < n)) xs = true :=
  match h with
  | .nil => rfl
  | .cons hf h hs => by simp only [Proofs.Ythllcknfidnfaaa.allL, h.allB hA, hs.allL hA, Bool.and_true]
theorem VL.allL {c : Cx} {n : Nat} {xs : List PV} {vs : List Value} (h : VL E c xs vs) (hA : ∀ b, c.A b → b < n) : Proofs.Ythllcknfidnfaaa.allL (fun b => decide (b < n)) xs = true :=
  match h with
  | .nil => rfl
  | .undef hs => by simp only [Proofs.Ythllcknfidnfaaa.allL, Proofs.Ythllcknfidnfaaa.allB, hs.allL hA, Bool.and_true]
  | .one h1 hn h hs => by simp only [Proofs.Ythllcknfidnfaaa.allL, h.allB hA, hs.allL hA, Bool.and_true]
  | .agg h hs => by simp only [Proofs.Ythllcknfidnfaaa.allL, h.allB hA, hs.allL hA, Bool.and_true]
  | .tup h hs => by simp only [Proofs.Ythllcknfidnfaaa.allL, Proofs.Ythllcknfidnfaaa.allB, h.allL hA, hs.allL hA, Bool.and_true]
end

theorem ML.all {c : Cx} {n : Nat} {es : List (Lit × PV)} {ds : List (Lit × DataW Value)} (h : ML E c es ds) (hA : ∀ b, c.A b → b < n) : (es.all fun q => allB (fun b => decide (b < n)) q.2) = true := by
  induction h with
  | nil => rfl
  | cons h hs ih =>
    have := VL.allL h hA
    simp only [Proofs.Ythllcknfidnfaaa.allL, Bool.and_true] at this
    simp only [List.all_cons, this, ih, Bool.and_true]

/-- The blocks of a store tell of no others. -/
theorem Now.allStore {c : Cx} {σ : Store} (hn : Now E c σ) : Proofs.Ythllcknfidnfaaa.allStore (fun b => decide (b < σ.length)) σ = true := by
  unfold Proofs.Ythllcknfidnfaaa.allStore
  rw [List.all_eq_true]
  intro x hx
  cases x with
  | none => rfl
  | some blk =>
    obtain ⟨b, hb⟩ := List.getElem?_of_mem hx
    obtain ⟨_, m, hm⟩ := hn.live b blk hb
    obtain ⟨blk', h1, _, _, h4⟩ := hn.dom b m hm
    rw [hb] at h1; simp only [Option.some.injEq] at h1; subst h1
    cases blk with
    | cells ty g xs =>
      obtain ⟨_, _, ca, el, fz, cs, _, _, h5, _⟩ := h4
      exact VCs.allL h5 hn.A
    | mp K es =>
      obtain ⟨_, _, ds, _, h5⟩ := h4
      exact ML.all h5 hn.A

/-- What a call must come to if what it laid is to be frozen. -/
def newRe (σ : Store) (R : Re → Store → Prop) (re : Re) (σ' : Store) : Prop :=
  (σ'.take σ.length = σ ∨ allStore (fun b => decide (b < σ.length)) (σ'.take σ.length) = true) ∧
  match re with
  | .ret r => (match frzT σ.length σ' r with | some y => R (.ret y) (σ'.take σ.length) | none => False)
  | .pan r => (match frzT σ.length σ' r with | some y => R (.pan y) (σ'.take σ.length) | none => False)

theorem C_new (O : E.OK) {f : FuncId} {args : List PV} {σ : Store} {R : Re → Store → Prop} (h : C E f args σ (newRe σ R)) : C E f args σ R := fun cx vs hn hv => by
  have hn1 : Now E (cx.label σ.length) σ := hn.label (Nat.le_refl _)
  refine (h (cx.label σ.length) vs hn1 (hv.ext (Ext.label _ _))).mono ?_
  rintro e w' ⟨re, σ1, cx1, rfl, h2, h3, h4, h5⟩
  have hold : allStore (fun b => decide (b < σ.length)) (σ1.take σ.length) = true := by
    rcases h2.1 with h | h
    · rw [h]; exact hn.allStore
    · exact h
  let k := σ.length
  have hk : k ≤ σ1.length := by
    have h1 := h4.top
    have h2 : cx1.top = k := h5.top
    omega
  have hmu : ∀ b m, (cx1.frzNew k).mu b = some m → b < k ∧ cx1.mu b = some m := fun b m hm => by
    simp only [Cx.frzNew] at hm
    split at hm
    · rename_i hb; exact ⟨hb, hm⟩
    · simp at hm
  let cx' : Cx := (cx1.frzNew k).label cx.top
  have hIin : ∀ j, (cx1.frzNew k).I j → (cx1.frzNew k).F j := fun j hj => hj.imp (h4.IF j) id
  have hlow : ∀ (m : MB) (blk : Blk), BlkOK E cx1 m blk → allBlk (fun b => decide (b < k)) blk = true → BlkOK E cx' m blk := fun m blk hb ha => by
    have := hb.ren (c' := cx') (r := fun b => b) (p := fun b => decide (b < k)) ha ⟨fun _ h => .inl h, fun _ _ => rfl, fun b hb hA => ⟨hA, by simpa using hb⟩, fun b hb hA m hm => (hmu b m hm).2⟩ rfl
    rw [show renBlk (fun b => b) blk = blk from by
      have := renBlk_renBlk (r := fun b => b) (s := fun b => b) (p := fun b => decide (b < k)) (fun _ _ => rfl) blk ha
      have ha2 := allBlk_ren (r := fun b => b) (q := fun b => decide (b < k)) (fun _ h => h) blk ha
      have id1 : ∀ x : PV, Proofs.Ythllcknfidnfaaa.ren (fun b => b) x = x := ren_id
      cases blk with
      | cells ty g xs => simp only [renBlk, renL_id]
      | mp K es => simp [renBlk, ren_id]] at this
    exact this
  have hn' : Now E cx' (σ1.take k) := by
    have hl : (σ1.take k).length = k := by rw [List.length_take]; omega
    refine ⟨by rw [hl]; exact hn.top, fun b hb => by rw [hl]; exact hb.2, hIin, fun j hj => ?_, fun b m hm => ?_, fun b blk hb => ?_, fun b b' m m' hb hb' he => h4.inj b b' m m' (hmu b m hb).2 (hmu b' m' hb').2 he, fun b m hb => h4.base b m (hmu b m hb).2⟩
    · rcases hj with h | ⟨b, m, _, h1, h2⟩
      · exact h4.imm j h
      · obtain ⟨_, _, h3, _⟩ := h4.dom b m h1; exact h2 ▸ h3
    · obtain ⟨hb, hm1⟩ := hmu b m hm
      obtain ⟨blk, k1, k2, k3, k4⟩ := h4.dom b m hm1
      have hmem : (σ1.take k)[b]? = some (some blk) := by rw [List.getElem?_take, if_pos hb]; exact k1
      refine ⟨blk, hmem, k2, ?_, hlow m blk k4 (List.all_eq_true.1 hold _ (List.mem_of_getElem? hmem))⟩
      rintro (h | ⟨b', m', h1, h2, h3⟩)
      · exact k3 h
      · have := h4.inj _ _ _ _ h2 hm1 h3; omega
    · have hb0 := hb
      rw [List.getElem?_take] at hb
      split at hb
      · rename_i hlt
        obtain ⟨k1, m, k2⟩ := h4.live b blk hb
        exact ⟨⟨k1, hlt⟩, m, by show (if b < k then cx1.mu b else none) = some m; rw [if_pos hlt]; exact k2⟩
      · simp at hb
  have hs1 : Step cx (cx1.label cx.top) := h5.relabel hn.top
  have hs' : Step cx cx' := by
    refine ⟨⟨fun j h => .inl (hs1.ext.I j h), hs1.ext.keeps, fun b hb => ⟨hs1.ext.A b hb, hn.A b hb⟩, fun b hb m hm => hs1.ext.mu b hb m (hmu b m hm).2⟩, fun j h => .inl (hs1.F j h), hs1.keeps, fun j hj => ?_, fun b m hm => hs1.muold b m (hmu b m hm).2, rfl, fun b hb => hs1.new b hb.1, hs1.size, hs1.os, hs1.tape, hs1.output⟩
    rcases hj with h | ⟨b, m, _, h1, h2⟩
    · exact hs1.grow j h
    · rcases hs1.muold b m h1 with h | ⟨x, mx, hx, he⟩
      · exact .inr (.inl (h2 ▸ h))
      · exact .inr (.inr ⟨x, mx, hx, he.trans h2⟩)
  have h2' := h2.2
  cases re with
  | ret r =>
    cases e <;> simp only [ReOK] at h3
    simp only at h2'
    split at h2'
    · rename_i y hy
      exact ⟨.ret y, _, cx', rfl, h2', (frzT_V O k h4 h3 hy).ext (Ext.label _ _), hn', hs'⟩
    · exact h2'.elim
  | pan r =>
    cases e <;> simp only [ReOK] at h3
    obtain ⟨v, hch, h3⟩ := h3
    simp only at h2'
    split at h2'
    · rename_i y hy
      exact ⟨.pan y, _, cx', rfl, h2', ⟨v, hch, (frzT_V O k h4 h3 hy).ext (Ext.label _ _)⟩, hn', hs'⟩
    · exact h2'.elim

end
end Go.Proofs.Ythllcknfidnfaaa
