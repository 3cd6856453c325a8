/- One function of all plain operations; calls; regions; functions. -/
import Derived.Test.YthllcknfidnfaaaSx
set_option linter.unusedVariables false
set_option linter.unusedSimpArgs false
namespace Go.Proofs.Ythllcknfidnfaaa
open Go

def optEval (fr : Fr) : Option Operand → Option (Option Int)
  | none => some none
  | some x => match Fr.eval fr x with | some (.int _ n) => some (some n) | _ => none

theorem optEval_ok {fr : Fr} {x : Option Operand} {n : Option Int} (h : optEval fr x = some n) : OptInt fr x n := by
  cases x with
  | none => simp [optEval] at h; subst h; trivial
  | some x =>
    simp only [optEval] at h
    split at h
    · rename_i k n' hx; simp only [Option.some.injEq] at h; subst h; exact ⟨k, hx⟩
    · simp at h

def isArr : TD → Bool
  | .arr _ _ => true
  | _ => false

/-- What a builtin yields, and leaves. -/
def sBuiltin (E : Env) (b : Builtin) (args : List Operand) (types : List TypeId) (fr : Fr) (σ : Store) (nid : Nat) : Option (PV × Store) :=
  match b, args, types with
  | .len, [x], [T] => match Fr.eval fr x with | some xv => if E.kn T then (sLen E T xv σ).map (·, σ) else none | none => none
  | .min, [x, y], _ => match Fr.eval fr x, Fr.eval fr y with | some (.int k a), some (.int k' b) => if k = k' then some (.int k (min a b), σ) else none | _, _ => none
  | .max, [x, y], _ => match Fr.eval fr x, Fr.eval fr y with | some (.int k a), some (.int k' b) => if k = k' then some (.int k (max a b), σ) else none | _, _ => none
  | .max, [x, y, z], _ => match Fr.eval fr x, Fr.eval fr y, Fr.eval fr z with
    | some (.int k a), some (.int k' b), some (.int k'' d) => if k = k' ∧ k = k'' then some (.int k (max (max a b) d), σ) else none | _, _, _ => none
  | .append, [s, x], [S, X] => match Fr.eval fr s, Fr.eval fr x, E.td S, E.td X with
    | some sv, some xv, .slice e, .int .i64 => match sApp E e xv σ true with
      | some ys => if E.kn S ∧ E.kn X ∧ ys.all (fits E e) ∧ 0 < E.bytes e then sAppend E e sv ys σ nid else none
      | none => none
    | some sv, some xv, .slice e, tx => match sList xv σ with
      | some ys => if E.kn S ∧ E.kn X ∧ (tx = .slice e ∨ tx = .str) ∧ ys.all (fits E e) ∧ 0 < E.bytes e then sAppend E e sv ys σ nid else none
      | none => none
    | _, _, _, _ => none
  | .cap, [x], [T] => match Fr.eval fr x, E.td T with | some .nils, .slice _ => if E.kn T then some (.int .i64 0, σ) else none | _, _ => none
  | .delete, [m, x], [T, K] => match Fr.eval fr m, Fr.eval fr x with | some mv, some xv => if E.kn T then (sMapDel E T K mv xv σ).map (.tup [], ·) else none | _, _ => none
  | _, _, _ => none

/-- What a plain operation yields, and leaves. -/
def sop (E : Env) (op : Op) (fr : Fr) (σ : Store) (nid : Nat) : Option (PV × Store) :=
  match op with
  | .move x => (Fr.eval fr x).map (·, σ)
  | .assign x => (Fr.eval fr x).map (·, σ)
  | .pick c a b => match Fr.eval fr c with | some (.bool t) => (Fr.eval fr (if t then a else b)).map (·, σ) | _ => none
  | .alloc T => if E.kn T then some (.ptr nid 0 0 [], Store.new σ nid (.cells T 0 [E.zero T])) else none
  | .box T x => match Fr.eval fr x with | some v => if fits E T v then some (.ptr nid 0 0 [], Store.new σ nid (.cells T 0 [v])) else none | none => none
  | .load T x => match Fr.eval fr x with | some v => if E.kn T then (sLoad E T v σ).map (·, σ) else none | none => none
  | .store T x y => match Fr.eval fr x, Fr.eval fr y with | some a, some v => if E.kn T then (sStore E T a v σ).map (.undef, ·) else none | _, _ => none
  | .fieldAddr T x k => match Fr.eval fr x with | some v => if E.kn T ∧ E.td T = .st then (sFieldAddr E T v k σ).map (·, σ) else none | none => none
  | .field T x k => match Fr.eval fr x with | some v => if E.kn T ∧ E.td T = .st then (sField T v k).map (·, σ) else none | none => none
  | .indexAddr T x i => match Fr.eval fr x, Fr.eval fr i with | some v, some (.int _ n) => if E.kn T then (sIndexAddr E T v n σ).map (·, σ) else none | _, _ => none
  | .index T x i => match Fr.eval fr x, Fr.eval fr i with
    | some (.str s), some (.int _ n) => if E.kn T ∧ E.td T = .str ∧ 0 ≤ n then (match s[n.toNat]? with | some b => some (.int .u8 b.toNat, σ) | none => none) else none | _, _ => none
  | .nilCheck x => match Fr.eval fr x with | some v => if sNilCheck v σ then some (v, σ) else none | none => none
  | .binOp o T x y _ => match Fr.eval fr x, Fr.eval fr y with | some a, some b => if E.kn T then (sBin E o T a b).map (·, σ) else none | _, _ => none
  | .unOp o _ x => match Fr.eval fr x with | some a => (sUn o a).map (·, σ) | none => none
  | .convert T U x => match Fr.eval fr x, E.td U with | some (.int _ n), .int k => if E.kn T ∧ E.kn U then some (.int k (k.wrap n), σ) else none | some (.lit ys), .str => if E.kn U then (sConvStr E T ys).map (·, σ) else none | _, _ => none
  | .slice T x lo hi mx => match Fr.eval fr x, optEval fr lo, optEval fr hi, optEval fr mx with | some v, some l, some h, some m => if E.kn T then (sSlice E T v l h m σ).map (·, σ) else none | _, _, _, _ => none
  | .extract x k => match Fr.eval fr x with | some (.tup vs) => (vs[k]?).map (·, σ) | _ => none
  | .makeFunc f first cap => match first.toList.mapM (Fr.eval fr), cap.toList.mapM (Fr.eval fr) with | some xs, some ys => some (.fn f xs ys, σ) | _, _ => none
  | .build T parts => match evalParts fr parts.toList with | some ps => if E.kn T ∧ (E.td T = .st ∨ isArr (E.td T)) then (sBuild E T ps).map (·, σ) else none | none => none
  | .buildSlice T len parts => match evalParts fr parts.toList, E.td T with
    | some ps, .slice e => if E.kn T ∧ len * E.size e ≤ 16777216 then (sBuildSlice E e len ps).map fun xs => (.ref nid 0 0 len, Store.new σ nid (.cells e 0 xs)) else none | _, _ => none
  | .makeSlice T l c => match Fr.eval fr l, Fr.eval fr c, E.td T with
    | some (.int _ n), some (.int _ m), .slice e => if E.kn T ∧ 0 ≤ n ∧ n ≤ m ∧ m ≤ 16777216 ∧ E.bytes e ≤ 16777216 then some (.ref nid 0 0 n.toNat, Store.new σ nid (.cells e 0 (List.replicate n.toNat (E.zero e)))) else none | _, _, _ => none
  | .makeInterface T x => match Fr.eval fr x with | some v => if E.kn T ∧ E.td T ≠ .ifc ∧ E.td T ≠ .other ∧ fits E T v then some (.iface T v, σ) else none | none => none
  | .makeMap T none => match E.td T with | .map K _ => if E.kn T then some (.map nid, Store.new σ nid (.mp K [])) else none | _ => none
  | .lookup T m x ok => match Fr.eval fr m, Fr.eval fr x with | some mv, some xv => if E.kn T then (sLookup E T mv xv ok σ).map (·, σ) else none | _, _ => none
  | .mapUpdate T m x y => match Fr.eval fr m, Fr.eval fr x, Fr.eval fr y with | some mv, some xv, some yv => if E.kn T then (sMapSet E T mv xv yv σ).map (.undef, ·) else none | _, _, _ => none
  | .call c => match c.callee with | .builtin b => sBuiltin E b c.args.toList c.argTypes.toList fr σ nid | _ => none
  | _ => none

section
variable {E : Env} {σ : Store} {nid : Nat}

theorem builtin_ok (O : E.OK) {o : Oper} {c : Call} {b : Builtin} {fr : Fr} {v : PV} {σ' : Store} (ho : o.op = .call c) (hc : c.callee = .builtin b) 
    (h : sBuiltin E b c.args.toList c.argTypes.toList fr σ nid = some (v, σ')) : Yld E nid o fr σ v σ' := by
  have arr : ∀ {α : Type} {a : Array α} {l : List α}, a.toList = l → a = l.toArray := fun h => by rw [← h]
  unfold sBuiltin at h
  split at h
  · rename_i x T hA hT
    split at h
    · rename_i xv hx
      split at h
      · rename_i hk
        obtain ⟨r, hr, hh⟩ := Option.map_eq_some_iff.1 h
        simp only [Prod.mk.injEq] at hh; obtain ⟨rfl, rfl⟩ := hh
        exact Y_len O ho hc (arr hA) (arr hT) hx hk hr
      · simp at h
    · simp at h
  · rename_i x y hA
    split at h
    · rename_i k a k' b hx hy
      split at h
      · rename_i e; subst e
        simp only [Option.some.injEq, Prod.mk.injEq] at h; obtain ⟨rfl, rfl⟩ := h
        exact Y_min2 ho hc (arr hA) hx hy
      · simp at h
    · simp at h
  · rename_i x y hA
    split at h
    · rename_i k a k' b hx hy
      split at h
      · rename_i e; subst e
        simp only [Option.some.injEq, Prod.mk.injEq] at h; obtain ⟨rfl, rfl⟩ := h
        exact Y_max2 ho hc (arr hA) hx hy
      · simp at h
    · simp at h
  · rename_i x y z hA
    split at h
    · rename_i k a k' b k'' d hx hy hz
      split at h
      · rename_i e; obtain ⟨rfl, rfl⟩ := e
        simp only [Option.some.injEq, Prod.mk.injEq] at h; obtain ⟨rfl, rfl⟩ := h
        exact Y_max3 ho hc (arr hA) hx hy hz
      · simp at h
    · simp at h
  · rename_i s x S X hA hT
    split at h
    · rename_i sv xv e hs hx hS hX
      split at h
      · rename_i ys hys
        split at h
        · rename_i hcn
          obtain ⟨c1, c2, c3, c4⟩ := hcn
          exact Y_append (zeros := true) O ho hc (arr hA) (arr hT) hs hx hS c1 c2 (by simpa using hX) hys (fun y hy => List.all_eq_true.1 c3 y hy) c4 h
        · simp at h
      · simp at h
    · rename_i sv xv e hs hx hS hne
      split at h
      · rename_i ys hys
        split at h
        · rename_i hcn
          obtain ⟨c1, c2, c5, c3, c4⟩ := hcn
          exact Y_append (zeros := false) O ho hc (arr hA) (arr hT) hs hx hS c1 c2 (by simpa using c5) (by simpa [sApp] using hys) (fun y hy => List.all_eq_true.1 c3 y hy) c4 h
        · simp at h
      · simp at h
    · simp at h
  · rename_i x T hA hT
    split at h
    · rename_i e hx hS
      split at h
      · rename_i hk
        simp only [Option.some.injEq, Prod.mk.injEq] at h; obtain ⟨rfl, rfl⟩ := h
        exact Y_cap O ho hc (arr hA) (arr hT) hx hk hS
      · simp at h
    · simp at h
  · rename_i m x T K hA hT
    split at h
    · rename_i mv xv hm hx
      split at h
      · rename_i hk
        obtain ⟨r, hr, hh⟩ := Option.map_eq_some_iff.1 h
        simp only [Prod.mk.injEq] at hh; obtain ⟨rfl, rfl⟩ := hh
        exact Y_delete O ho hc (arr hA) (arr hT) hm hx hk hr
      · simp at h
    · simp at h
  · simp at h

theorem sop_ok (O : E.OK) {o : Oper} {fr : Fr} {v : PV} {σ' : Store} (h : sop E o.op fr σ nid = some (v, σ')) : Yld E nid o fr σ v σ' := by
  unfold sop at h
  split at h
  · rename_i x ho
    obtain ⟨r, hr, hh⟩ := Option.map_eq_some_iff.1 h
    simp only [Prod.mk.injEq] at hh; obtain ⟨rfl, rfl⟩ := hh
    exact Y_move (.inl ho) hr
  · rename_i x ho
    obtain ⟨r, hr, hh⟩ := Option.map_eq_some_iff.1 h
    simp only [Prod.mk.injEq] at hh; obtain ⟨rfl, rfl⟩ := hh
    exact Y_move (.inr ho) hr
  · rename_i c a b ho
    split at h
    · rename_i t hc
      obtain ⟨r, hr, hh⟩ := Option.map_eq_some_iff.1 h
      simp only [Prod.mk.injEq] at hh; obtain ⟨rfl, rfl⟩ := hh
      exact Y_pick ho hc hr
    · simp at h
  · rename_i T ho
    split at h
    · rename_i hk
      simp only [Option.some.injEq, Prod.mk.injEq] at h; obtain ⟨rfl, rfl⟩ := h
      exact Y_alloc O ho hk
    · simp at h
  · rename_i T x ho
    split at h
    · rename_i xv hx
      split at h
      · rename_i hf
        simp only [Option.some.injEq, Prod.mk.injEq] at h; obtain ⟨rfl, rfl⟩ := h
        exact Y_box O ho hx hf
      · simp at h
    · simp at h
  · rename_i T x ho
    split at h
    · rename_i xv hx
      split at h
      · rename_i hk
        obtain ⟨r, hr, hh⟩ := Option.map_eq_some_iff.1 h
        simp only [Prod.mk.injEq] at hh; obtain ⟨rfl, rfl⟩ := hh
        exact Y_load O ho hx hk hr
      · simp at h
    · simp at h
  · rename_i T x y ho
    split at h
    · rename_i xv yv hx hy
      split at h
      · rename_i hk
        obtain ⟨r, hr, hh⟩ := Option.map_eq_some_iff.1 h
        simp only [Prod.mk.injEq] at hh; obtain ⟨rfl, rfl⟩ := hh
        exact Y_store O ho hx hy hk hr
      · simp at h
    · simp at h
  · rename_i T x k ho
    split at h
    · rename_i xv hx
      split at h
      · rename_i hk
        obtain ⟨r, hr, hh⟩ := Option.map_eq_some_iff.1 h
        simp only [Prod.mk.injEq] at hh; obtain ⟨rfl, rfl⟩ := hh
        exact Y_fieldAddr O ho hx hk.1 hk.2 hr
      · simp at h
    · simp at h
  · rename_i T x k ho
    split at h
    · rename_i xv hx
      split at h
      · rename_i hk
        obtain ⟨r, hr, hh⟩ := Option.map_eq_some_iff.1 h
        simp only [Prod.mk.injEq] at hh; obtain ⟨rfl, rfl⟩ := hh
        exact Y_field O ho hx hk.1 hk.2 hr
      · simp at h
    · simp at h
  · rename_i T x i ho
    split at h
    · rename_i xv j n hx hi
      split at h
      · rename_i hk
        obtain ⟨r, hr, hh⟩ := Option.map_eq_some_iff.1 h
        simp only [Prod.mk.injEq] at hh; obtain ⟨rfl, rfl⟩ := hh
        exact Y_indexAddr O ho hx hi hk hr
      · simp at h
    · simp at h
  · rename_i T x i ho
    split at h
    · rename_i s j n hx hi
      split at h
      · rename_i hk
        split at h
        · rename_i b hb
          simp only [Option.some.injEq, Prod.mk.injEq] at h; obtain ⟨rfl, rfl⟩ := h
          exact Y_index O ho hx hi hk.1 hk.2.1 hk.2.2 hb
        · simp at h
      · simp at h
    · simp at h
  · rename_i x ho
    split at h
    · rename_i xv hx
      split at h
      · rename_i hc
        simp only [Option.some.injEq, Prod.mk.injEq] at h; obtain ⟨rfl, rfl⟩ := h
        exact Y_nilCheck ho hx hc
      · simp at h
    · simp at h
  · rename_i op T x y yT ho
    split at h
    · rename_i xv yv hx hy
      split at h
      · rename_i hk
        obtain ⟨r, hr, hh⟩ := Option.map_eq_some_iff.1 h
        simp only [Prod.mk.injEq] at hh; obtain ⟨rfl, rfl⟩ := hh
        exact Y_bin O ho hx hy hk hr
      · simp at h
    · simp at h
  · rename_i op T x ho
    split at h
    · rename_i xv hx
      obtain ⟨r, hr, hh⟩ := Option.map_eq_some_iff.1 h
      simp only [Prod.mk.injEq] at hh; obtain ⟨rfl, rfl⟩ := hh
      exact Y_un ho hx hr
    · simp at h
  · rename_i T U x ho
    split at h
    · rename_i j n k hx hU
      split at h
      · rename_i hk
        simp only [Option.some.injEq, Prod.mk.injEq] at h; obtain ⟨rfl, rfl⟩ := h
        exact Y_convInt O ho hx hk.1 hk.2 hU
      · simp at h
    · rename_i ys hx hU
      split at h
      · rename_i hk
        obtain ⟨r, hr, hh⟩ := Option.map_eq_some_iff.1 h
        simp only [Prod.mk.injEq] at hh; obtain ⟨rfl, rfl⟩ := hh
        exact Y_convStr O ho hx hk hU hr
      · simp at h
    · simp at h
  · rename_i T x lo hi mx ho
    split at h
    · rename_i xv l hh m hx h1 h2 h3
      split at h
      · rename_i hk
        obtain ⟨r, hr, hh⟩ := Option.map_eq_some_iff.1 h
        simp only [Prod.mk.injEq] at hh; obtain ⟨rfl, rfl⟩ := hh
        exact Y_slice O ho hx (optEval_ok h1) (optEval_ok h2) (optEval_ok h3) hk hr
      · simp at h
    · simp at h
  · rename_i x k ho
    split at h
    · rename_i vs hx
      obtain ⟨r, hr, hh⟩ := Option.map_eq_some_iff.1 h
      simp only [Prod.mk.injEq] at hh; obtain ⟨rfl, rfl⟩ := hh
      exact Y_extract ho hx hr
    · simp at h
  · rename_i f first cap ho
    split at h
    · rename_i xs ys h1 h2
      simp only [Option.some.injEq, Prod.mk.injEq] at h; obtain ⟨rfl, rfl⟩ := h
      exact Y_makeFunc ho (fun c ρ he => by simpa using VL_map he h1) (fun c ρ he => by simpa using VL_map he h2)
    · simp at h
  · rename_i T parts ho
    split at h
    · rename_i ps hp
      split at h
      · rename_i hk
        obtain ⟨r, hr, hh⟩ := Option.map_eq_some_iff.1 h
        simp only [Prod.mk.injEq] at hh; obtain ⟨rfl, rfl⟩ := hh
        refine Y_build O ho hk.1 ?_ hp hr
        rcases hk.2 with h | h
        · exact .inl h
        · right
          unfold isArr at h
          split at h
          · rename_i n e he; exact ⟨n, e, he⟩
          · simp at h
      · simp at h
    · simp at h
  · rename_i T len parts ho
    split at h
    · rename_i ps e hp hT
      split at h
      · rename_i hk
        obtain ⟨r, hr, hh⟩ := Option.map_eq_some_iff.1 h
        simp only [Prod.mk.injEq] at hh; obtain ⟨rfl, rfl⟩ := hh
        exact Y_buildSlice O ho hk.1 hT hk.2 hp hr
      · simp at h
    · simp at h
  · rename_i T l c ho
    split at h
    · rename_i k n k' m e hl hc hT
      split at h
      · rename_i hk
        simp only [Option.some.injEq, Prod.mk.injEq] at h; obtain ⟨rfl, rfl⟩ := h
        exact Y_makeSlice O ho hk.1 hT hl hc hk.2.1 hk.2.2.1 hk.2.2.2.1 hk.2.2.2.2
      · simp at h
    · simp at h
  · rename_i T x ho
    split at h
    · rename_i xv hx
      split at h
      · rename_i hk
        simp only [Option.some.injEq, Prod.mk.injEq] at h; obtain ⟨rfl, rfl⟩ := h
        exact Y_makeInterface O ho hk.1 hk.2.1 hk.2.2.1 hx hk.2.2.2
      · simp at h
    · simp at h
  · rename_i T ho
    split at h
    · rename_i K e hT
      split at h
      · rename_i hk
        simp only [Option.some.injEq, Prod.mk.injEq] at h; obtain ⟨rfl, rfl⟩ := h
        exact Y_makeMap O ho hk hT
      · simp at h
    · simp at h
  · rename_i T m x ok ho
    split at h
    · rename_i mv xv hm hx
      split at h
      · rename_i hk
        obtain ⟨r, hr, hh⟩ := Option.map_eq_some_iff.1 h
        simp only [Prod.mk.injEq] at hh; obtain ⟨rfl, rfl⟩ := hh
        exact Y_lookup O ho hm hx hk hr
      · simp at h
    · simp at h
  · rename_i T m x y ho
    split at h
    · rename_i mv xv yv hm hx hy
      split at h
      · rename_i hk
        obtain ⟨r, hr, hh⟩ := Option.map_eq_some_iff.1 h
        simp only [Prod.mk.injEq] at hh; obtain ⟨rfl, rfl⟩ := hh
        exact Y_mapUpdate O ho hm hx hy hk hr
      · simp at h
    · simp at h
  · rename_i c ho
    split at h
    · rename_i b hb
      exact builtin_ok O ho hb h
    · simp at h
  · simp at h

end
end Go.Proofs.Ythllcknfidnfaaa
