/- Operations, going on: slices, lengths, append, new slices, structs. -/
import Derived.Test.YthllcknfidnfaaaSh
set_option linter.unusedVariables false
set_option linter.unusedSimpArgs false
namespace Go.Proofs.Ythllcknfidnfaaa
open Go

section
variable {E : Env} {cx : Cx} {σ : Store} {nid : Nat}

/-- A row of values of one type. -/
abbrev VR (E : Env) (c : Cx) (T : TypeId) (xs : List PV) (cs : List Value) : Prop := VCs E c (List.replicate xs.length T) xs cs

theorem VR.nil {c : Cx} {T : TypeId} : VR E c T [] [] := VCs.nil
theorem VR.cons {c : Cx} {T : TypeId} {x : PV} {xs : List PV} {cs ds : List Value} (hf : fits E T x = true) (h : VC E c x cs) (hs : VR E c T xs ds) : VR E c T (x :: xs) (cs ++ ds) := by
  simpa [VR, List.replicate_succ] using VCs.cons hf h hs
theorem VR.uncons {c : Cx} {T : TypeId} {x : PV} {xs : List PV} {cs : List Value} (h : VR E c T (x :: xs) cs) : ∃ ds es, cs = ds ++ es ∧ fits E T x = true ∧ VC E c x ds ∧ VR E c T xs es := by
  have h' : VCs E c (T :: List.replicate xs.length T) (x :: xs) cs := by simpa [VR, List.replicate_succ] using h
  cases h' with
  | cons hf hv hs => exact ⟨_, _, rfl, hf, hv, hs⟩
theorem VR.length (F : E.Fine) {c : Cx} {T : TypeId} {xs : List PV} {cs : List Value} (h : VR E c T xs cs) : cs.length = xs.length * E.size T := by
  rw [VCs.len F h, List.map_replicate, List.sum_replicate_nat]

theorem VR.app {c : Cx} {T : TypeId} : ∀ {xs ys : List PV} {cs ds : List Value}, VR E c T xs cs → VR E c T ys ds → VR E c T (xs ++ ys) (cs ++ ds)
  | [], ys, cs, ds, h, k => by
    have : cs = [] := by cases h; rfl
    subst this; exact k
  | x :: xs, ys, cs, ds, h, k => by
    obtain ⟨as, bs, rfl, hf, hv, hs⟩ := h.uncons
    rw [List.append_assoc]
    exact .cons hf hv (hs.app k)

theorem VR.drop (F : E.Fine) {c : Cx} {T : TypeId} : ∀ (k : Nat) {xs : List PV} {cs : List Value}, VR E c T xs cs → VR E c T (xs.drop k) (cs.drop (k * E.size T))
  | 0, xs, cs, h => by simpa using h
  | k + 1, [], cs, h => by
    have : cs = [] := by cases h; rfl
    subst this; simpa using h
  | k + 1, x :: xs, cs, h => by
    obtain ⟨as, bs, rfl, hf, hv, hs⟩ := h.uncons
    have l := hv.len F _ hf
    have := hs.drop F k
    have e : (k + 1) * E.size T = as.length + k * E.size T := by rw [l, Nat.add_mul, Nat.one_mul]; omega
    have hd : as.drop (as.length + k * E.size T) = [] := List.drop_eq_nil_of_le (by omega)
    rw [List.drop_succ_cons, e, List.drop_append, hd, Nat.add_sub_cancel_left]
    simpa using this

theorem VR.take (F : E.Fine) {c : Cx} {T : TypeId} : ∀ (k : Nat) {xs : List PV} {cs : List Value}, VR E c T xs cs → VR E c T (xs.take k) (cs.take (k * E.size T))
  | 0, xs, cs, h => by simpa using VR.nil
  | k + 1, [], cs, h => by
    have : cs = [] := by cases h; rfl
    subst this; simpa using h
  | k + 1, x :: xs, cs, h => by
    obtain ⟨as, bs, rfl, hf, hv, hs⟩ := h.uncons
    have l := hv.len F _ hf
    have := hs.take F k
    have e : (k + 1) * E.size T = as.length + k * E.size T := by rw [l, Nat.add_mul, Nat.one_mul]; omega
    have ht : as.take (as.length + k * E.size T) = as := List.take_of_length_le (by omega)
    rw [List.take_succ_cons, e, List.take_append, ht, Nat.add_sub_cancel_left]
    exact .cons hf hv this

theorem VR.cast (F : E.Fine) {c : Cx} {T U : TypeId} : ∀ {xs : List PV} {cs : List Value}, VR E c T xs cs → (∀ x ∈ xs, fits E U x = true) → VR E c U xs cs
  | [], cs, h, _ => by
    have : cs = [] := by cases h; rfl
    subst this; exact .nil
  | x :: xs, cs, h, hu => by
    obtain ⟨as, bs, rfl, hf, hv, hs⟩ := h.uncons
    exact .cons (hu x (by simp)) hv (hs.cast F fun y hy => hu y (by simp [hy]))

theorem VR.ext {c c' : Cx} {T : TypeId} {xs : List PV} {cs : List Value} (h : VR E c T xs cs) (e : Ext c c') : VR E c' T xs cs := VCs.ext h e

theorem LW_drop (cs : List Value) (k : Nat) : LW cs k (cs.drop k) := fun j v h => by simpa using h
theorem LW_take (cs : List Value) (k : Nat) : LW cs 0 (cs.take k) := fun j v h => by
  rw [List.getElem?_take] at h
  split at h
  · simpa using h
  · simp at h

def sSlice (E : Env) (T : TypeId) (x : PV) (lo hi max : Option Int) (σ : Store) : Option PV :=
  let l := lo.getD 0
  match E.td T, x with
  | .str, .str s => let h := hi.getD s.size; if max.isNone ∧ 0 ≤ l ∧ l ≤ h ∧ h ≤ s.size then some (.str (s.extract l.toNat h.toNat)) else none
  | .slice e, .lit xs => let h := hi.getD xs.length; let m := max.getD h; if 0 ≤ l ∧ l ≤ h ∧ h ≤ m ∧ m ≤ xs.length ∧ (max.isSome → hi.isSome) ∧ (∀ x ∈ xs, fits E e x = true) then some (.lit ((xs.take h.toNat).drop l.toNat)) else none
  | .slice e, .nils => let h := hi.getD 0; if l = 0 ∧ h = 0 ∧ max.getD 0 = 0 ∧ (max.isSome → hi.isSome) then some .nils else none
  | .slice e, .ref b g off len => let h := hi.getD len; let m := max.getD h; if 0 ≤ l ∧ l ≤ h ∧ h ≤ m ∧ m ≤ len ∧ (max.isSome → hi.isSome) then
      (match Store.at σ b with | some (.cells ty g' xs) => if g' = g ∧ ty = e then some (.ref b g (off + l.toNat) (h - l).toNat) else none | _ => none) else none
  | _, _ => none

theorem run_bounds {P : Program} {w : World} (len cap : Nat) (lo hi max : Option Int) (kl kh km : IntKind) (l h m : Int) (hl : l = lo.getD 0) (hh : h = hi.getD len) (hmx : m = max.getD cap) (h0 : 0 ≤ l) (h1 : l ≤ h) (h2 : h ≤ m) (h3 : m ≤ cap)
    (hs : max.isSome → hi.isSome) :
    (Instr.sliceBounds true len cap (lo.map fun n => .int kl n) (hi.map fun n => .int kh n) (max.map fun n => .int km n)).run P w = .ok (l.toNat, h.toNat, m.toNat) w := by
  have sb : ∀ (k : IntKind) (n : Int) (y : Nat) (c : BoundsCode), 0 ≤ n → n ≤ y → (Instr.sliceBound (.int k n) y c).run P w = .ok n.toNat w := fun k n y c a b => by
    simp [Instr.sliceBound, asIntOf, a, b]
  cases max with
  | none =>
    simp only [Option.getD_none] at hmx
    cases hi with
    | none =>
      simp only [Option.getD_none] at hh
      cases lo with
      | none => simp only [Option.getD_none] at hl; subst hl hh hmx; simp [Instr.sliceBounds]
      | some x => simp only [Option.getD_some] at hl; subst hl hh hmx; simp [Instr.sliceBounds, sb kl _ _ _ h0 h1]
    | some y =>
      simp only [Option.getD_some] at hh
      cases lo with
      | none => simp only [Option.getD_none] at hl; subst hl hh hmx; simp [Instr.sliceBounds, sb kh _ _ _ (by omega) h2]
      | some x => simp only [Option.getD_some] at hl; subst hl hh hmx; simp [Instr.sliceBounds, sb kh _ _ _ (by omega) h2, sb kl l h.toNat _ h0 (by omega)]
  | some z =>
    simp only [Option.getD_some] at hmx
    cases hi with
    | none => simp at hs
    | some y =>
      simp only [Option.getD_some] at hh
      cases lo with
      | none => simp only [Option.getD_none] at hl; subst hl hh hmx; simp [Instr.sliceBounds, sb km _ _ _ (by omega) h3, sb kh h m.toNat _ (by omega) (by omega)]
      | some x => simp only [Option.getD_some] at hl; subst hl hh hmx; simp [Instr.sliceBounds, sb km _ _ _ (by omega) h3, sb kh h m.toNat _ (by omega) (by omega), sb kl l h.toNat _ h0 (by omega)]

/-- An operand that may be missing. -/
def OptInt (fr : Fr) (x : Option Operand) (n : Option Int) : Prop :=
  match x, n with
  | none, none => True
  | some x, some n => ∃ k, Fr.eval fr x = some (.int k n)
  | _, _ => False

theorem OptInt.val {c : Cx} {fr : Fr} {ρ : Operand → Value} (he : Ev E c fr ρ) {x : Option Operand} {n : Option Int} (h : OptInt fr x n) : ∃ k, x.map ρ = n.map fun n => .int k n := by
  cases x <;> cases n <;> simp only [OptInt] at h
  · exact ⟨.i64, rfl⟩
  · obtain ⟨k, hk⟩ := h
    exact ⟨k, by simp [V.int_inv (he _ _ hk)]⟩

theorem Y_slice (O : E.OK) {o : Oper} {T : TypeId} {x : Operand} {lo hi max : Option Operand} {l h m : Option Int} {fr : Fr} {xv v : PV} (ho : o.op = .slice T x lo hi max) (hx : Fr.eval fr x = some xv)
    (hl : OptInt fr lo l) (hh : OptInt fr hi h) (hm : OptInt fr max m) (hk : E.kn T = true) (hs : sSlice E T xv l h m σ = some v) : Yld E nid o fr σ v σ := Yld_pure fun cx ρ hn he => by
  have hv := he x xv hx
  obtain ⟨kl, el⟩ := hl.val he
  obtain ⟨kh, eh⟩ := hh.val he
  obtain ⟨km, em⟩ := hm.val he
  have htd := O.td T hk
  have hrun : ∀ u : Value, (Instr.sliceAt T (ρ x) (l.map fun n => .int kl n) (h.map fun n => .int kh n) (m.map fun n => .int km n)).run E.P cx.w = .ok u cx.w → (execOp ρ o).run E.P cx.w = .ok (.value u) cx.w := fun u hu => by
    simp only [execOp, ho, el, eh, em, Sem.run_bind, hu, Result.andThen_ok, Sem.run_pure]
  unfold sSlice at hs
  simp only at hs
  split at hs
  · rename_i s htd'
    rw [htd'] at htd
    have hu : E.P.underlying T = some .string := htd
    split at hs
    · rename_i hc
      obtain ⟨c1, c2, c3, c4⟩ := hc
      simp only [Option.some.injEq] at hs; subst hs
      have hmn : m = none := by cases m <;> simp_all
      subst hmn
      refine ⟨_, hrun _ ?_, V_one (.str _) (by simp)⟩
      have sb : ∀ (k : IntKind) (n : Int) (y : Nat) (c : BoundsCode), 0 ≤ n → n ≤ y → (Instr.sliceBound (.int k n) y c).run E.P cx.w = .ok n.toNat cx.w := fun k n y c a b => by
        simp [Instr.sliceBound, asIntOf, a, b]
      have hb : (Instr.sliceBounds false s.size s.size (l.map fun n => .int kl n) (h.map fun n => .int kh n) none).run E.P cx.w = .ok ((l.getD 0).toNat, (h.getD s.size).toNat, s.size) cx.w := by
        cases h with
        | none => cases l with
          | none => simp [Instr.sliceBounds]
          | some a => simp only [Option.getD_some, Option.getD_none] at c2 c3 c4; simp [Instr.sliceBounds, sb kl a s.size _ c2 c3]
        | some b => cases l with
          | none => simp only [Option.getD_some, Option.getD_none] at c2 c3 c4; simp [Instr.sliceBounds, sb kh b s.size _ (by omega) c4]
          | some a => simp only [Option.getD_some] at c2 c3 c4; simp [Instr.sliceBounds, sb kh b s.size _ (by omega) c4, sb kl a b.toNat _ c2 (by omega)]
      simp only [Instr.sliceAt, Sem.run_bind, run_underlying hu, Result.andThen_ok, Instr.slice, V.str_inv hv, Option.map_none, Option.isSome_none, Bool.false_eq_true, if_false, Sem.run_pure]
      simp [hb]
    · simp at hs
  · rename_i e xs htd'
    rw [htd'] at htd
    obtain ⟨hu, hke, hpos⟩ := htd
    split at hs
    · rename_i hc
      obtain ⟨c1, c2, c3, c4, c5, c6⟩ := hc
      simp only [Option.some.injEq] at hs; subst hs
      have key : ∀ (a : Option Addr) (cap : Nat), xs.length ≤ cap → ρ x = .slice a xs.length cap → (Instr.sliceAt T (ρ x) (l.map fun n => .int kl n) (h.map fun n => .int kh n) (m.map fun n => .int km n)).run E.P cx.w =
          .ok (.slice (if (m.getD cap).toNat = (l.getD 0).toNat then a else a.map (·.add ((l.getD 0).toNat * E.size e))) ((h.getD xs.length).toNat - (l.getD 0).toNat) ((m.getD cap).toNat - (l.getD 0).toNat)) cx.w := fun a cap hcap hval => by
        have hb := run_bounds (P := E.P) (w := cx.w) xs.length cap l h m kl kh km _ _ _ rfl rfl rfl c1 c2 (by cases m <;> simp_all; omega) (by cases m <;> simp_all; omega) c5
        simp [Instr.sliceAt, run_underlying hu, hval, Instr.slice, hb, run_size O hke]
      rcases hv.lit_inv with ⟨rfl, a, n, hval⟩ | ⟨U, b, o', cap, cs, ca, el', fz, hval, hI, hw, hcs, hwin, hcap⟩
      · have := key a n (by simp) (by simpa using hval)
        have e1 : (h.getD ([] : List PV).length).toNat - (l.getD 0).toNat = 0 := by simp at c2 c3 c4 ⊢; omega
        rw [e1] at this
        exact ⟨_, hrun _ this, by simpa using V_one (.lit0 _ _) (by simp)⟩
      · have := key _ cap hcap hval
        refine ⟨_, hrun _ this, ?_⟩
        have hlen : ((xs.take (h.getD xs.length).toNat).drop (l.getD 0).toNat).length = (h.getD xs.length).toNat - (l.getD 0).toNat := by simp; omega
        by_cases he : (h.getD xs.length).toNat - (l.getD 0).toNat = 0
        · have e0 : (xs.take (h.getD xs.length).toNat).drop (l.getD 0).toNat = [] := List.eq_nil_of_length_eq_zero (hlen.trans he)
          rw [e0, he]
          exact V_one (.lit0 _ _) (by simp)
        · have hne : ¬ (m.getD (cap : Int)).toNat = (l.getD 0).toNat := by cases m <;> simp_all <;> omega
          rw [if_neg hne, ← hlen]
          have v1 : VR E cx.pure e xs cs := VR.cast O.toFine hcs c6
          have v2 := (v1.take O.toFine (h.getD xs.length).toNat).drop O.toFine (l.getD 0).toNat
          simp only [Option.map_some, add_lit']
          refine V_one (.lit _ e b _ _ _ ca el' fz hI hw v2 ?_ ?_) (by simp)
          · have := LW.win hwin ((LW_take cs _).trans (LW_drop (cs.take ((h.getD xs.length).toNat * E.size e)) ((l.getD 0).toNat * E.size e)))
            simpa using this
          · rw [hlen]; cases m <;> simp_all <;> omega
    · simp at hs
  · rename_i e htd'
    rw [htd'] at htd
    obtain ⟨hu, hke, hpos⟩ := htd
    split at hs
    · rename_i hc
      obtain ⟨c1, c2, c3, c5⟩ := hc
      simp only [Option.some.injEq] at hs; subst hs
      obtain ⟨a, hval⟩ := hv.nils_inv
      have hb := run_bounds (P := E.P) (w := cx.w) 0 0 l h m kl kh km 0 0 0 (by omega) (by simpa using c2.symm) (by simpa using c3.symm) (by omega) (by omega) (by omega) (by omega) c5
      refine ⟨_, hrun (.slice a 0 0) ?_, V_one (.nils _) (by simp)⟩
      simp [Instr.sliceAt, run_underlying hu, hval, Instr.slice, hb, run_size O hke]
    · simp at hs
  · rename_i e b g off len htd'
    rw [htd'] at htd
    obtain ⟨hu, hke, hpos⟩ := htd
    split at hs
    · rename_i hc
      obtain ⟨c1, c2, c3, c4, c5⟩ := hc
      split at hs
      · rename_i ty g' xs hb
        split at hs
        · rename_i hg
          obtain ⟨rfl, rfl⟩ := hg
          simp only [Option.some.injEq] at hs; subst hs
          obtain ⟨mb, ca, el', fz, cs, j1, j2, j3, j4, j5, j6, j7, j8, j9⟩ := hn.blk hb
          obtain ⟨hA, hle, hr⟩ := hv.ref_inv
          obtain ⟨a, cap, hval, hcap, hh⟩ := hr mb j1 j2
          have hbd := run_bounds (P := E.P) (w := cx.w) len cap l h m kl kh km _ _ _ rfl rfl rfl c1 c2 (by cases m <;> simp_all; omega) (by cases m <;> simp_all; omega) c5
          have := hrun (.slice (if (m.getD cap).toNat = (l.getD 0).toNat then a else a.map (·.add ((l.getD 0).toNat * E.size ty))) ((h.getD len).toNat - (l.getD 0).toNat) ((m.getD cap).toNat - (l.getD 0).toNat)) (by
            simp [Instr.sliceAt, run_underlying hu, hval, Instr.slice, hbd, run_size O hke])
          refine ⟨_, this, V_one (.ref _ _ _ _ _ rfl hA hle fun m' hm' _ => ?_) (by simp)⟩
          rw [j1] at hm'; simp only [Option.some.injEq] at hm'; subst hm'
          have elen : (h.getD (len : Int) - l.getD 0).toNat = (h.getD (len : Int)).toNat - (l.getD 0).toNat := by omega
          refine ⟨_, _, by rw [elen], ?_, ?_⟩
          · rw [elen]; cases m <;> simp_all <;> omega
          · by_cases hz : (m.getD (cap : Int)).toNat = (l.getD 0).toNat
            · left; omega
            · right
              have hcap0 : cap ≠ 0 := by cases m <;> simp_all <;> omega
              rcases hh with h | ⟨rfl, hfit⟩
              · exact absurd h hcap0
              · rw [if_neg hz, j3]
                refine ⟨by simp [add_lit', Nat.add_mul, Nat.add_assoc, j3], ?_⟩
                have : off + (l.getD 0).toNat + ((m.getD (cap : Int)).toNat - (l.getD 0).toNat) ≤ off + cap := by cases m <;> simp_all <;> omega
                rw [j3] at hfit
                have := Nat.mul_le_mul_right (E.size ty) this
                omega
        · simp at hs
      · simp at hs
    · simp at hs
  · simp at hs

end
end Go.Proofs.Ythllcknfidnfaaa
