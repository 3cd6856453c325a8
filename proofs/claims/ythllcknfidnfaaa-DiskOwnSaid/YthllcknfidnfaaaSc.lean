/- Parts of values: reading and writing along a path of fields. -/
import Derived.Test.YthllcknfidnfaaaSb
set_option linter.unusedVariables false
set_option linter.unusedSimpArgs false
namespace Go.Proofs.Ythllcknfidnfaaa
open Go

/-- The plain facts on the table of types. -/
structure Env.Fine (E : Env) : Prop where
  scalar : ∀ T, E.agg T = false → E.size T = 1
  aggr : ∀ T, E.agg T = true → E.size T = ((E.lay T).map E.size).sum

mutual
theorem VC.one {E : Env} {c : Cx} {x : PV} {cs : List Value} (h : VC E c x cs) : ∀ v ∈ cs, v.oneCell' = true :=
  match h with
  | .bool b => by simp [Value.oneCell']
  | .int k n => by simp [Value.oneCell']
  | .str s => by simp [Value.oneCell']
  | .nilp => by simp [Value.oneCell']
  | .ptr b g i p v h1 _ _ _ => by simpa using h1
  | .laddr x k o cs ca t fz hI hw hx hwin => by simp [Value.oneCell']
  | .nils a => by simp [Value.oneCell']
  | .lit0 a n => by simp [Value.oneCell']
  | .lit xs T k o cap cs ca t fz hI hw hx hwin hcap => by simp [Value.oneCell']
  | .ref b g off len v h1 _ _ _ => by simpa using h1
  | .nilm => by simp [Value.oneCell']
  | .map b v h1 _ _ => by simpa using h1
  | .nilf => by simp [Value.oneCell']
  | .fn f first cap vs us h1 h2 => by simp [Value.oneCell']
  | .nili => by simp [Value.oneCell']
  | .ifaceA t u fs cs h => by simp [Value.oneCell']
  | .ifaceS t x v h1 h => by simp [Value.oneCell']
  | .agg t fs cs h => h.one
theorem VCs.one {E : Env} {c : Cx} {Ts : List TypeId} {xs : List PV} {cs : List Value} (h : VCs E c Ts xs cs) : ∀ v ∈ cs, v.oneCell' = true :=
  match h with
  | .nil => by simp
  | .cons hf h hs => fun v hv => (List.mem_append.1 hv).elim (h.one v) (hs.one v)
end

theorem VC.scalar {E : Env} {c : Cx} {x : PV} {cs : List Value} (h : VC E c x cs) (hn : ∀ t fs, x ≠ .agg t fs) : ∃ v, cs = [v] := by
  cases h <;> first | exact ⟨_, rfl⟩ | exact absurd rfl (hn _ _)

theorem fits_agg {E : Env} {T t : TypeId} {fs : List PV} (h : fits E T (.agg t fs) = true) : t = T ∧ E.agg T = true := by
  simpa [fits] using h

theorem fits_scalar {E : Env} {T : TypeId} {x : PV} (h : fits E T x = true) (hn : ∀ t fs, x ≠ .agg t fs) : E.agg T = false := by
  cases x <;> simp_all [fits]

mutual
theorem VC.len {E : Env} (F : E.Fine) {c : Cx} {x : PV} {cs : List Value} (h : VC E c x cs) : ∀ T, fits E T x = true → cs.length = E.size T :=
  match h with
  | .bool b => fun T hf => by rw [F.scalar T (fits_scalar hf (by simp))]; rfl
  | .int k n => fun T hf => by rw [F.scalar T (fits_scalar hf (by simp))]; rfl
  | .str s => fun T hf => by rw [F.scalar T (fits_scalar hf (by simp))]; rfl
  | .nilp => fun T hf => by rw [F.scalar T (fits_scalar hf (by simp))]; rfl
  | .ptr b g i p v h1 _ _ _ => fun T hf => by rw [F.scalar T (fits_scalar hf (by simp))]; rfl
  | .laddr x k o cs ca t fz hI hw hx hwin => fun T hf => by rw [F.scalar T (fits_scalar hf (by simp))]; rfl
  | .nils a => fun T hf => by rw [F.scalar T (fits_scalar hf (by simp))]; rfl
  | .lit0 a n => fun T hf => by rw [F.scalar T (fits_scalar hf (by simp))]; rfl
  | .lit xs T k o cap cs ca t fz hI hw hx hwin hcap => fun T hf => by rw [F.scalar T (fits_scalar hf (by simp))]; rfl
  | .ref b g off len v h1 _ _ _ => fun T hf => by rw [F.scalar T (fits_scalar hf (by simp))]; rfl
  | .nilm => fun T hf => by rw [F.scalar T (fits_scalar hf (by simp))]; rfl
  | .map b v h1 _ _ => fun T hf => by rw [F.scalar T (fits_scalar hf (by simp))]; rfl
  | .nilf => fun T hf => by rw [F.scalar T (fits_scalar hf (by simp))]; rfl
  | .fn f first cap vs us h1 h2 => fun T hf => by rw [F.scalar T (fits_scalar hf (by simp))]; rfl
  | .nili => fun T hf => by rw [F.scalar T (fits_scalar hf (by simp))]; rfl
  | .ifaceA t u fs cs h => fun T hf => by rw [F.scalar T (fits_scalar hf (by simp))]; rfl
  | .ifaceS t x v h1 h => fun T hf => by rw [F.scalar T (fits_scalar hf (by simp))]; rfl
  | .agg t fs cs h => fun T hf => by
      obtain ⟨rfl, ha⟩ := fits_agg hf
      rw [F.aggr _ ha]; exact h.len F
theorem VCs.len {E : Env} (F : E.Fine) {c : Cx} {Ts : List TypeId} {xs : List PV} {cs : List Value} (h : VCs E c Ts xs cs) : cs.length = (Ts.map E.size).sum :=
  match h with
  | .nil => rfl
  | .cons hf h hs => by simp [h.len F _ hf, hs.len F]
end

theorem VCs.count {E : Env} {c : Cx} : ∀ {Ts : List TypeId} {xs : List PV} {cs : List Value}, VCs E c Ts xs cs → Ts.length = xs.length
  | _, _, _, .nil => rfl
  | _, _, _, .cons hf h hs => by simp [hs.count]

/-- 'ds' stands in 'cs' from 'o' on. -/
def LW (cs : List Value) (o : Nat) (ds : List Value) : Prop := ∀ j v, ds[j]? = some v → cs[o + j]? = some v

theorem LW.refl (cs : List Value) : LW cs 0 cs := fun j v h => by simpa using h
theorem LW.trans {as bs cs : List Value} {o p : Nat} (h : LW as o bs) (k : LW bs p cs) : LW as (o + p) cs := fun j v hv => by
  rw [Nat.add_assoc]; exact h _ _ (k _ _ hv)
theorem LW.mid (as bs cs : List Value) : LW (as ++ (bs ++ cs)) as.length bs := fun j v h => by
  have hj : j < bs.length := by
    rcases Nat.lt_or_ge j bs.length with h' | h'
    · exact h'
    · simp [List.getElem?_eq_none h'] at h
  rw [List.getElem?_append_right (by omega), Nat.add_sub_cancel_left, List.getElem?_append_left hj]
  exact h
theorem LW.win {ca : Array Value} {o p : Nat} {cs ds : List Value} (h : Win ca o cs) (k : LW cs p ds) : Win ca (o + p) ds := fun j v hv => by
  rw [Nat.add_assoc]; exact h _ _ (k _ _ hv)

theorem VCs.get {E : Env} (F : E.Fine) {c : Cx} : ∀ {Ts : List TypeId} {xs : List PV} {cs : List Value}, VCs E c Ts xs cs → ∀ (k : Nat) (y : PV), xs[k]? = some y →
    ∃ T ds, Ts[k]? = some T ∧ fits E T y = true ∧ VC E c y ds ∧ LW cs ((Ts.take k).map E.size).sum ds
  | _, _, _, .nil => fun k y h => by simp at h
  | T :: Ts, x :: xs, _, .cons (cs := cs) (ds := ds) hf h hs => fun k y hy => by
    cases k with
    | zero =>
      simp at hy; subst hy
      exact ⟨T, cs, by simp, hf, h, by simpa using LW.mid [] cs ds⟩
    | succ k =>
      obtain ⟨U, es, h1, h2, h3, h4⟩ := hs.get F k y (by simpa using hy)
      refine ⟨U, es, by simpa using h1, h2, h3, ?_⟩
      have e := h.len F _ hf
      have m := LW.mid cs ds []
      simp only [List.append_nil] at m
      have := m.trans h4
      simpa [e] using this

/-- The part at the end of a path. -/
def getP : PV → List Nat → Option PV
  | x, [] => some x
  | .agg _ fs, k :: p => match fs[k]? with | some y => getP y p | none => none
  | _, _ :: _ => none

theorem VC.getP {E : Env} (F : E.Fine) {c : Cx} : ∀ (p : List Nat) {x y : PV} {cs : List Value} {T : TypeId}, VC E c x cs → fits E T x = true → getP x p = some y →
    ∃ ds U, VC E c y ds ∧ LW cs (pathOff E T p) ds ∧ typeAt E T p = some U ∧ fits E U y = true
  | [], x, y, cs, T, h, hf, hg => by
    simp [Proofs.Ythllcknfidnfaaa.getP] at hg; subst hg
    exact ⟨cs, T, h, LW.refl cs, rfl, hf⟩
  | k :: p, x, y, cs, T, h, hf, hg => by
    cases x <;> simp [Proofs.Ythllcknfidnfaaa.getP] at hg
    rename_i t fs
    obtain ⟨rfl, ha⟩ := fits_agg hf
    cases hk : fs[k]? with
    | none => simp [hk] at hg
    | some z =>
      simp [hk] at hg
      cases h with
      | agg _ _ _ h =>
        obtain ⟨U, ds, h1, h2, h3, h4⟩ := h.get F k z hk
        obtain ⟨es, W, k1, k2, k3, k4⟩ := VC.getP F p h3 h2 hg
        refine ⟨es, W, k1, ?_, ?_, k4⟩
        · simp only [pathOff, offOf, List.getD, h1, Option.getD_some]
          exact h4.trans k2
        · simp only [typeAt, ha, if_true, h1]; exact k3

/-- 'cs' with 'ds' written from 'o' on. -/
def splice (cs : List Value) (o : Nat) (ds : List Value) : List Value := cs.take o ++ ds ++ cs.drop (o + ds.length)

theorem VCs.set {E : Env} (F : E.Fine) {c : Cx} : ∀ {Ts : List TypeId} {xs : List PV} {cs : List Value}, VCs E c Ts xs cs → ∀ (k : Nat) (T : TypeId) (y : PV) (ds : List Value), Ts[k]? = some T → fits E T y = true → VC E c y ds →
    VCs E c Ts (xs.set k y) (splice cs ((Ts.take k).map E.size).sum ds)
  | _, _, _, .nil => fun k T y ds h => by simp at h
  | T :: Ts, x :: xs, _, .cons (cs := cs) (ds := es) hf h hs => fun k U y ds hk hy hv => by
    have e := h.len F _ hf
    cases k with
    | zero =>
      simp at hk; subst hk
      have e' := hv.len F _ hy
      have := VCs.cons hy hv hs
      simpa [splice, e', ← e] using this
    | succ k =>
      have ih := hs.set F k U y ds (by simpa using hk) hy hv
      have := VCs.cons hf h ih
      simp only [splice, List.set_cons_succ, List.take_succ_cons, List.map_cons, List.sum_cons, ← e]
      simp only [splice] at this
      rw [List.take_append, List.drop_append]
      simp only [Nat.add_sub_cancel_left, List.append_assoc] at this ⊢
      rw [List.take_of_length_le (by omega), List.drop_eq_nil_of_le (by omega : cs.length ≤ cs.length + _ + ds.length)]
      simpa [Nat.add_assoc, Nat.add_sub_cancel_left] using this

/-- The value with its part at the end of a path turned into another. -/
def setP : PV → List Nat → PV → Option PV
  | _, [], v => some v
  | .agg t fs, k :: p, v => match fs[k]? with | some y => (setP y p v).map fun z => .agg t (fs.set k z) | none => none
  | _, _ :: _, _ => none

theorem splice_splice {cs ds es : List Value} {o p : Nat} (h : LW cs o ds) (hp : p + es.length ≤ ds.length) (ho : o + ds.length ≤ cs.length) :
    splice cs o (splice ds p es) = splice cs (o + p) es := by
  apply List.ext_getElem?
  intro j
  have hl : (splice ds p es).length = ds.length := by simp [splice]; omega
  simp only [splice, List.getElem?_append, List.length_append, List.length_take, List.length_drop, List.getElem?_take, List.getElem?_drop]
  rw [Nat.min_eq_left (by omega : o ≤ cs.length), Nat.min_eq_left (by omega : o + p ≤ cs.length), Nat.min_eq_left (by omega : p ≤ ds.length)]
  by_cases h1 : j < o
  · simp [h1, show j < o + (p + es.length + (ds.length - (p + es.length))) by omega, show j < o + p + es.length by omega, show j < o + p by omega]
  · by_cases h2 : j < o + p
    · have h3 : (ds[j - o]?) = cs[j]? := by
        have : j - o < ds.length := by omega
        rw [List.getElem?_eq_getElem this]
        have := h (j - o) _ (List.getElem?_eq_getElem this)
        rw [show o + (j - o) = j by omega] at this
        exact this.symm
      simp [h1, h2, show j < o + (p + es.length + (ds.length - (p + es.length))) by omega, show j - o < p by omega, show j - o < p + es.length by omega, show j < o + p + es.length by omega, h3]
    · by_cases h4 : j < o + p + es.length
      · simp [h1, h2, h4, show j < o + (p + es.length + (ds.length - (p + es.length))) by omega, show ¬ j - o < p by omega, show j - o < p + es.length by omega, show j - o - p = j - (o + p) by omega]
      · by_cases h5 : j < o + ds.length
        · have h3 : (ds[j - o]?) = cs[j]? := by
            have : j - o < ds.length := by omega
            rw [List.getElem?_eq_getElem this]
            have := h (j - o) _ (List.getElem?_eq_getElem this)
            rw [show o + (j - o) = j by omega] at this
            exact this.symm
          simp [h1, h2, h4, show j < o + (p + es.length + (ds.length - (p + es.length))) by omega, show ¬ j - o < p by omega, show ¬ j - o < p + es.length by omega]
          rw [show p + es.length + (j - o - (p + es.length)) = j - o by omega, h3, show o + p + es.length + (j - (o + p + es.length)) = j by omega]
        · simp [h1, h2, h4, show ¬ j < o + (p + es.length + (ds.length - (p + es.length))) by omega]
          congr 1; omega

theorem VCs.fit_len {E : Env} (F : E.Fine) {c : Cx} {Ts : List TypeId} {xs : List PV} {cs : List Value} (h : VCs E c Ts xs cs) {k : Nat} {T : TypeId} (hk : Ts[k]? = some T) :
    ((Ts.take k).map E.size).sum + E.size T ≤ cs.length := by
  rw [h.len F]
  clear h
  induction Ts generalizing k with
  | nil => simp at hk
  | cons U Us ih =>
    cases k with
    | zero => simp at hk; subst hk; simp
    | succ k => have := ih (k := k) (by simpa using hk); simp only [List.take_succ_cons, List.map_cons, List.sum_cons]; omega

theorem pathOff_le {E : Env} (F : E.Fine) : ∀ (p : List Nat) (T U : TypeId), typeAt E T p = some U → pathOff E T p + E.size U ≤ E.size T
  | [], T, U, h => by simp [typeAt] at h; subst h; simp [pathOff]
  | k :: p, T, U, h => by
    simp only [typeAt] at h
    split at h
    · rename_i ha
      split at h
      · rename_i u hu
        have ih := pathOff_le F p u U h
        simp only [pathOff, offOf, List.getD, hu, Option.getD_some]
        rw [F.aggr T ha]
        have : ∀ (Ts : List TypeId) (k : Nat), Ts[k]? = some u → ((Ts.take k).map E.size).sum + E.size u ≤ (Ts.map E.size).sum := by
          intro Ts
          induction Ts with
          | nil => intro k h; simp at h
          | cons V Vs ih =>
            intro k hk
            cases k with
            | zero => simp at hk; subst hk; simp
            | succ k => have := ih k (by simpa using hk); simp only [List.take_succ_cons, List.map_cons, List.sum_cons]; omega
        have := this _ _ hu
        omega
      · simp at h
    · simp at h

theorem VC.setP {E : Env} (F : E.Fine) {c : Cx} : ∀ (p : List Nat) {x v x' : PV} {cs ds : List Value} {T U : TypeId}, VC E c x cs → fits E T x = true → setP x p v = some x' → typeAt E T p = some U → fits E U v = true → VC E c v ds →
    VC E c x' (splice cs (pathOff E T p) ds) ∧ fits E T x' = true
  | [], x, v, x', cs, ds, T, U, h, hf, hs, ht, hv, hd => by
    simp [Proofs.Ythllcknfidnfaaa.setP] at hs; subst hs
    simp [typeAt] at ht; subst ht
    have e1 := h.len F _ hf
    have e2 := hd.len F _ hv
    refine ⟨?_, hv⟩
    simp [splice, pathOff, e1, e2, List.drop_eq_nil_of_le]
    exact hd
  | k :: p, x, v, x', cs, ds, T, U, h, hf, hs, ht, hv, hd => by
    cases x <;> simp [Proofs.Ythllcknfidnfaaa.setP] at hs
    rename_i t fs
    obtain ⟨rfl, ha⟩ := fits_agg hf
    cases hk : fs[k]? with
    | none => simp [hk] at hs
    | some y =>
      simp [hk] at hs
      obtain ⟨z, hz, rfl⟩ := hs
      cases h with
      | agg _ _ _ h =>
        obtain ⟨W, es, h1, h2, h3, h4⟩ := h.get F k y hk
        have ht' : typeAt E W p = some U := by simpa [typeAt, ha, h1] using ht
        obtain ⟨i1, i2⟩ := VC.setP F p h3 h2 hz ht' hv hd
        have le := pathOff_le F p W U ht'
        have l1 := h3.len F _ h2
        have l2 := hd.len F _ hv
        have fl := h.fit_len F h1
        refine ⟨.agg _ _ _ ?_, by simp [fits, ha]⟩
        have := h.set F k W z _ h1 i2 i1
        rw [splice_splice h4 (by omega) (by omega)] at this
        simpa only [pathOff, offOf, List.getD, h1, Option.getD_some] using this

end Go.Proofs.Ythllcknfidnfaaa
