/- A call that reaches some blocks of the store alone: it may be walked over a store of just these. -/
import Derived.Test.YthllcknfidnfaaaSw
set_option linter.unusedVariables false
set_option linter.unusedSimpArgs false
namespace Go.Proofs.Ythllcknfidnfaaa
open Go

mutual
/-- A value with its blocks renamed. -/
def ren (r : Nat → Nat) : PV → PV
  | .ptr b g i p => .ptr (r b) g i p
  | .ref b g o l => .ref (r b) g o l
  | .map b => .map (r b)
  | .fn f xs ys => .fn f (renL r xs) (renL r ys)
  | .iface t x => .iface t (ren r x)
  | .agg t fs => .agg t (renL r fs)
  | .tup vs => .tup (renL r vs)
  | .undef => .undef
  | .bool b => .bool b
  | .int k n => .int k n
  | .str s => .str s
  | .nilp => .nilp
  | .laddr x => .laddr (ren r x)
  | .nils => .nils
  | .lit xs => .lit xs
  | .nilm => .nilm
  | .nilf => .nilf
  | .nili => .nili
def renL (r : Nat → Nat) : List PV → List PV
  | [] => []
  | x :: xs => ren r x :: renL r xs
end

mutual
/-- A value whose blocks are all of some kind. -/
def allB (p : Nat → Bool) : PV → Bool
  | .ptr b .. => p b
  | .ref b .. => p b
  | .map b => p b
  | .laddr x => allB p x
  | .fn _ a b => allL p a && allL p b
  | .iface _ x => allB p x
  | .agg _ fs => allL p fs
  | .tup vs => allL p vs
  | _ => true
def allL (p : Nat → Bool) : List PV → Bool
  | [] => true
  | x :: xs => allB p x && allL p xs
end

def renBlk (r : Nat → Nat) : Blk → Blk
  | .cells ty g xs => .cells ty g (renL r xs)
  | .mp K es => .mp K (es.map fun p => (p.1, ren r p.2))
def allBlk (p : Nat → Bool) : Blk → Bool
  | .cells _ _ xs => allL p xs
  | .mp _ es => es.all fun q => allB p q.2

mutual
theorem ren_pure (r : Nat → Nat) : ∀ (x : PV), pureB x = true → ren r x = x
  | .fn f a b, h => by simp only [pureB, Bool.and_eq_true] at h; simp only [ren, renL_pure r a h.1, renL_pure r b h.2]
  | .iface t x, h => by simp only [pureB] at h; simp only [ren, ren_pure r x h]
  | .agg t fs, h => by simp only [pureB] at h; simp only [ren, renL_pure r fs h]
  | .tup vs, h => by simp only [pureB] at h; simp only [ren, renL_pure r vs h]
  | .ptr .., h => by simp [pureB] at h
  | .ref .., h => by simp [pureB] at h
  | .map _, h => by simp [pureB] at h
  | .undef, _ => rfl
  | .bool b, _ => rfl
  | .int k n, _ => rfl
  | .str s, _ => rfl
  | .nilp, _ => rfl
  | .laddr x, h => by simp only [pureB] at h; simp only [ren, ren_pure r x h]
  | .nils, _ => rfl
  | .lit xs, _ => rfl
  | .nilm, _ => rfl
  | .nilf, _ => rfl
  | .nili, _ => rfl
theorem renL_pure (r : Nat → Nat) : ∀ (xs : List PV), pureL xs = true → renL r xs = xs
  | [], _ => rfl
  | x :: xs, h => by simp only [pureL, Bool.and_eq_true] at h; simp only [renL, ren_pure r x h.1, renL_pure r xs h.2]
end

mutual
theorem allB_pure (p : Nat → Bool) : ∀ (x : PV), pureB x = true → allB p x = true
  | .fn f a b, h => by simp only [pureB, Bool.and_eq_true] at h; simp only [allB, allL_pure p a h.1, allL_pure p b h.2, Bool.and_true]
  | .iface t x, h => by simp only [pureB] at h; simp only [allB, allB_pure p x h]
  | .agg t fs, h => by simp only [pureB] at h; simp only [allB, allL_pure p fs h]
  | .tup vs, h => by simp only [pureB] at h; simp only [allB, allL_pure p vs h]
  | .ptr .., h => by simp [pureB] at h
  | .ref .., h => by simp [pureB] at h
  | .map _, h => by simp [pureB] at h
  | .undef, _ => rfl
  | .bool b, _ => rfl
  | .int k n, _ => rfl
  | .str s, _ => rfl
  | .nilp, _ => rfl
  | .laddr x, h => by simp only [pureB] at h; simp only [allB, allB_pure p x h]
  | .nils, _ => rfl
  | .lit xs, _ => rfl
  | .nilm, _ => rfl
  | .nilf, _ => rfl
  | .nili, _ => rfl
theorem allL_pure (p : Nat → Bool) : ∀ (xs : List PV), pureL xs = true → allL p xs = true
  | [], _ => rfl
  | x :: xs, h => by simp only [pureL, Bool.and_eq_true] at h; simp only [allL, allB_pure p x h.1, allL_pure p xs h.2, Bool.and_true]
end

mutual
theorem ren_ren {r s : Nat → Nat} {p : Nat → Bool} (hp : ∀ b, p b = true → s (r b) = b) : ∀ (x : PV), allB p x = true → ren s (ren r x) = x
  | .fn f a b, h => by simp only [allB, Bool.and_eq_true] at h; simp only [ren, renL_renL hp a h.1, renL_renL hp b h.2]
  | .iface t x, h => by simp only [allB] at h; simp only [ren, ren_ren hp x h]
  | .agg t fs, h => by simp only [allB] at h; simp only [ren, renL_renL hp fs h]
  | .tup vs, h => by simp only [allB] at h; simp only [ren, renL_renL hp vs h]
  | .ptr .., h => by simp only [allB] at h; simp only [ren, hp _ h]
  | .ref .., h => by simp only [allB] at h; simp only [ren, hp _ h]
  | .map _, h => by simp only [allB] at h; simp only [ren, hp _ h]
  | .undef, _ => rfl
  | .bool b, _ => rfl
  | .int k n, _ => rfl
  | .str s, _ => rfl
  | .nilp, _ => rfl
  | .laddr x, h => by simp only [allB] at h; simp only [ren, ren_ren hp x h]
  | .nils, _ => rfl
  | .lit xs, _ => rfl
  | .nilm, _ => rfl
  | .nilf, _ => rfl
  | .nili, _ => rfl
theorem renL_renL {r s : Nat → Nat} {p : Nat → Bool} (hp : ∀ b, p b = true → s (r b) = b) : ∀ (xs : List PV), allL p xs = true → renL s (renL r xs) = xs
  | [], _ => rfl
  | x :: xs, h => by simp only [allL, Bool.and_eq_true] at h; simp only [renL, ren_ren hp x h.1, renL_renL hp xs h.2]
end

mutual
theorem allB_ren {r : Nat → Nat} {p q : Nat → Bool} (hp : ∀ b, p b = true → q (r b) = true) : ∀ (x : PV), allB p x = true → allB q (ren r x) = true
  | .fn f a b, h => by simp only [allB, Bool.and_eq_true] at h; simp only [ren, allB, allL_renL hp a h.1, allL_renL hp b h.2, Bool.and_true]
  | .iface t x, h => by simp only [allB] at h; simp only [ren, allB, allB_ren hp x h]
  | .agg t fs, h => by simp only [allB] at h; simp only [ren, allB, allL_renL hp fs h]
  | .tup vs, h => by simp only [allB] at h; simp only [ren, allB, allL_renL hp vs h]
  | .ptr .., h => by simp only [allB] at h; simp only [ren, allB, hp _ h]
  | .ref .., h => by simp only [allB] at h; simp only [ren, allB, hp _ h]
  | .map _, h => by simp only [allB] at h; simp only [ren, allB, hp _ h]
  | .undef, _ => rfl
  | .bool b, _ => rfl
  | .int k n, _ => rfl
  | .str s, _ => rfl
  | .nilp, _ => rfl
  | .laddr x, h => by simp only [allB] at h; simp only [ren, allB, allB_ren hp x h]
  | .nils, _ => rfl
  | .lit xs, _ => rfl
  | .nilm, _ => rfl
  | .nilf, _ => rfl
  | .nili, _ => rfl
theorem allL_renL {r : Nat → Nat} {p q : Nat → Bool} (hp : ∀ b, p b = true → q (r b) = true) : ∀ (xs : List PV), allL p xs = true → allL q (renL r xs) = true
  | [], _ => rfl
  | x :: xs, h => by simp only [allL, Bool.and_eq_true] at h; simp only [renL, allL, allB_ren hp x h.1, allL_renL hp xs h.2, Bool.and_true]
end

theorem fits_ren (E : Env) (r : Nat → Nat) (T : TypeId) (x : PV) : fits E T (ren r x) = fits E T x := by cases x <;> rfl
theorem renL_length (r : Nat → Nat) : ∀ xs : List PV, (renL r xs).length = xs.length
  | [] => rfl
  | x :: xs => by simp [renL, renL_length r xs]

mutual
theorem ren_id : ∀ x : PV, ren (fun b => b) x = x
  | .fn f a b => by simp only [ren, renL_id]
  | .iface t x => by simp only [ren, ren_id x]
  | .agg t fs => by simp only [ren, renL_id]
  | .tup vs => by simp only [ren, renL_id]
  | .laddr x => by simp only [ren, ren_id x]
  | .ptr .. => rfl
  | .ref .. => rfl
  | .map _ => rfl
  | .undef => rfl
  | .bool b => rfl
  | .int k n => rfl
  | .str s => rfl
  | .nilp => rfl
  | .nils => rfl
  | .lit xs => rfl
  | .nilm => rfl
  | .nilf => rfl
  | .nili => rfl
theorem renL_id : ∀ xs : List PV, renL (fun b => b) xs = xs
  | [] => rfl
  | x :: xs => by simp only [renL, ren_id x, renL_id xs]
end

/-- What a renaming needs of two moments. -/
structure Moves (c c' : Cx) (r : Nat → Nat) (p : Nat → Bool) : Prop where
  I : ∀ k, c.I k → c'.I k
  keeps : ∀ k, c.I k → c'.w.heap[k]? = c.w.heap[k]?
  A : ∀ b, p b = true → c.A b → c'.A (r b)
  mu : ∀ b, p b = true → c.A b → ∀ m, c'.mu (r b) = some m → c.mu b = some m

mutual
theorem VC.ren {E : Env} {c c' : Cx} {r : Nat → Nat} {p : Nat → Bool} {x : PV} {cs : List Value} (h : VC E c x cs) (hp : allB p x = true) (e : Moves c c' r p) : VC E c' (Proofs.Ythllcknfidnfaaa.ren r x) cs :=
  match h with
  | .bool b => .bool b
  | .int k n => .int k n
  | .str s => .str s
  | .nilp => .nilp
  | .ptr b g i q v h1 hb hle h => .ptr (r b) g i q v h1 (e.A b hp hb) (fun m' hm => hle m' (e.mu b hp hb m' hm)) fun m' hm hg => h m' (e.mu b hp hb m' hm) hg
  | .laddr x k o cs ca t fz hIk hwk hx hwin => .laddr _ k o cs ca t fz (e.I _ hIk) ((e.keeps _ hIk).trans hwk) (hx.ren (by simpa [allB] using hp) e) hwin
  | .nils a => .nils a
  | .lit0 a n => .lit0 a n
  | .lit xs T k o cap cs ca t fz hIk hwk hx hwin hcap => .lit xs T k o cap cs ca t fz (e.I _ hIk) ((e.keeps _ hIk).trans hwk) (hx.ext ⟨e.I, e.keeps, fun _ h => h.elim, fun _ h => h.elim⟩) hwin hcap
  | .ref b g i q v h1 hb hle h => .ref (r b) g i q v h1 (e.A b hp hb) (fun m' hm => hle m' (e.mu b hp hb m' hm)) fun m' hm hg => h m' (e.mu b hp hb m' hm) hg
  | .nilm => .nilm
  | .map b v h1 hb h => .map (r b) v h1 (e.A b hp hb) fun m' hm hg => h m' (e.mu b hp hb m' hm) hg
  | .nilf => .nilf
  | .fn f first cap vs us h1 h2 => by
    simp only [allB, Bool.and_eq_true] at hp
    exact .fn f _ _ vs us (h1.ren hp.1 e) (h2.ren hp.2 e)
  | .nili => .nili
  | .ifaceA t u fs cs h => .ifaceA t u _ cs (h.ren (by simpa [allB] using hp) e)
  | .ifaceS t x v h1 h => .ifaceS t _ v h1 (h.ren (by simpa [allB] using hp) e)
  | .agg t fs cs h => .agg t _ cs (h.ren (by simpa [allB] using hp) e)
theorem VCs.ren {E : Env} {c c' : Cx} {r : Nat → Nat} {p : Nat → Bool} {Ts : List TypeId} {xs : List PV} {cs : List Value} (h : VCs E c Ts xs cs) (hp : allL p xs = true) (e : Moves c c' r p) : VCs E c' Ts (renL r xs) cs :=
  match h with
  | .nil => .nil
  | .cons (x := x) hf h hs => by
    simp only [allL, Bool.and_eq_true] at hp
    exact .cons ((fits_ren E r _ x).trans hf) (h.ren hp.1 e) (hs.ren hp.2 e)
theorem VL.ren {E : Env} {c c' : Cx} {r : Nat → Nat} {p : Nat → Bool} {xs : List PV} {vs : List Value} (h : VL E c xs vs) (hp : allL p xs = true) (e : Moves c c' r p) : VL E c' (renL r xs) vs :=
  match h with
  | .nil => .nil
  | .undef hs => by
    simp only [allL, Bool.and_eq_true] at hp
    exact .undef (hs.ren hp.2 e)
  | .one (x := x) h1 hn h hs => by
    simp only [allL, Bool.and_eq_true] at hp
    exact .one h1 (fun t fs he => by cases x <;> simp [Proofs.Ythllcknfidnfaaa.ren] at he; exact hn _ _ rfl) (h.ren hp.1 e) (hs.ren hp.2 e)
  | .agg h hs => by
    simp only [allL, Bool.and_eq_true] at hp
    exact .agg (h.ren hp.1 e) (hs.ren hp.2 e)
  | .tup h hs => by
    simp only [allL, allB, Bool.and_eq_true] at hp
    exact .tup (h.ren hp.1 e) (hs.ren hp.2 e)
end

theorem renL_replicate (r : Nat → Nat) (xs : List PV) (ty : TypeId) : List.replicate (renL r xs).length ty = List.replicate xs.length ty := by rw [renL_length]

theorem ML.ren {E : Env} {c c' : Cx} {r : Nat → Nat} {p : Nat → Bool} {es : List (Lit × PV)} {ds : List (Lit × DataW Value)} (h : ML E c es ds) (hp : (es.all fun q => allB p q.2) = true) (e : Moves c c' r p) : ML E c' (es.map fun q => (q.1, Proofs.Ythllcknfidnfaaa.ren r q.2)) ds := by
  induction h with
  | nil => exact .nil
  | cons h hs ih =>
    simp only [List.all_cons, Bool.and_eq_true] at hp
    exact .cons (VL.ren (xs := [_]) h (by simp [allL, hp.1]) e) (ih hp.2)

theorem BlkOK.ren {E : Env} {c c' : Cx} {r : Nat → Nat} {p : Nat → Bool} {m : MB} {blk : Blk} (h : BlkOK E c m blk) (hp : allBlk p blk = true) (e : Moves c c' r p) (hw : c'.w.heap[m.blk]? = c.w.heap[m.blk]?) : BlkOK E c' m (renBlk r blk) := by
  cases blk with
  | cells ty g xs =>
    obtain ⟨h1, h2, ca, el, fz, cs, h3, h4, h5, h6, h7, h8⟩ := h
    exact ⟨h1, h2, ca, el, fz, cs, hw.trans h3, h4, by rw [renL_replicate]; exact h5.ren hp e, h6, h7, h8⟩
  | mp K es =>
    obtain ⟨h1, h2, ds, ⟨en, cl, h3, h4⟩, h5⟩ := h
    exact ⟨h1, h2, ds, by rw [List.length_map]; exact ⟨en, cl, hw.trans h3, h4⟩, h5.ren hp e⟩

end Go.Proofs.Ythllcknfidnfaaa
