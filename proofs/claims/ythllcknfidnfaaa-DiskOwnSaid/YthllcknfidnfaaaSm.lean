/- Values of structs, arrays and new slices; make; interfaces; texts and bytes. -/
import Derived.Test.YthllcknfidnfaaaSl
import Derived.Laws.BytesString
set_option linter.unusedVariables false
set_option linter.unusedSimpArgs false
namespace Go.Proofs.Ythllcknfidnfaaa
open Go

section
variable {E : Env} {cx : Cx} {σ : Store} {nid : Nat}

/-- Parts, as the logic and as the machine has them. -/
inductive PL (E : Env) (c : Cx) : List (Nat × PV) → List (Nat × Value) → Prop
  | nil : PL E c [] []
  | cons {k : Nat} {x : PV} {v : Value} {ps : List (Nat × PV)} {vs : List (Nat × Value)} (h : V E c x v) (hs : PL E c ps vs) : PL E c ((k, x) :: ps) ((k, v) :: vs)

/-- Parts put into fields. -/
def sFill (E : Env) (lay : List TypeId) : List PV → List (Nat × PV) → Option (List PV)
  | fs, [] => some fs
  | fs, (k, v) :: ps => match lay[k]? with
    | some T => if fits E T v then sFill E lay (fs.set k v) ps else none
    | none => none

theorem foldl_splice : ∀ (ds cs : List Value) (o j : Nat), o + j + ds.length ≤ cs.length →
    ((ds.zipIdx j).foldl (fun (a : Array Value) (x : Value × Nat) => a.setIfInBounds (o + x.2) x.1) cs.toArray) = (splice cs (o + j) ds).toArray
  | [], cs, o, j, h => by simp [splice]
  | d :: ds, cs, o, j, h => by
    simp only [List.zipIdx_cons, List.foldl_cons, List.length_cons] at h ⊢
    have e : (cs.toArray.setIfInBounds (o + j) d) = (cs.set (o + j) d).toArray := by simp
    rw [e, foldl_splice ds _ o (j + 1) (by simp; omega)]
    congr 1
    simp only [splice, List.length_cons]
    have := list_seg_step cs (o + j) d ds (by omega)
    simpa [Nat.add_assoc] using this

theorem fill_ok (F : E.Fine) {c : Cx} {lay : List TypeId} {place : Nat → Option (Nat × Nat)} (hp : ∀ k T, lay[k]? = some T → place k = some (((lay.take k).map E.size).sum, E.size T)) :
    ∀ (ps : List (Nat × PV)) (vs : List (Nat × Value)) (fs fs' : List PV) (cs : List Value), VCs E c lay fs cs → PL E c ps vs → sFill E lay fs ps = some fs' →
      ∃ cs', Instr.fill place cs.toArray vs = some cs'.toArray ∧ VCs E c lay fs' cs'
  | [], vs, fs, fs', cs, h, hv, hs => by
    cases hv
    simp only [sFill, Option.some.injEq] at hs; subst hs
    exact ⟨cs, rfl, h⟩
  | (k, x) :: ps, vs, fs, fs', cs, h, hv, hs => by
    cases hv with
    | cons hx h2 =>
      rename_i v vs
      simp only [sFill] at hs
      split at hs
      · rename_i T hT
        split at hs
        · rename_i hf
          have hc := VC_of_V hx hf
          have l := hc.len F _ hf
          have fl := h.fit_len F hT
          have := h.set F k T x _ hT hf hc
          obtain ⟨cs', i1, i2⟩ := fill_ok F hp ps vs _ fs' _ this h2 hs
          refine ⟨cs', ?_, i2⟩
          simp only [Instr.fill, hp k T hT]
          have hsz : v.cells.size = E.size T := by simpa using l
          have hcond : (decide (v.cells.size ≠ E.size T) || decide (((lay.take k).map E.size).sum + v.cells.size > cs.toArray.size)) = false := by
            simp only [hsz, ne_eq, not_true_eq_false, decide_false, Bool.false_or, decide_eq_false_iff_not, List.size_toArray]; omega
          simp only [hcond, Bool.false_eq_true, if_false]
          rw [← i1]
          congr 1
          have := foldl_splice v.cells.toList cs (((lay.take k).map E.size).sum) 0 (by simp only [Nat.add_zero]; omega)
          simp only [Nat.add_zero] at this
          rw [← this, ← Array.foldl_toList]
          simp
        · simp at hs
      · simp at hs

def evalParts (fr : Fr) (ps : List (Nat × Operand)) : Option (List (Nat × PV)) := ps.mapM fun p => (Fr.eval fr p.2).map fun v => (p.1, v)

theorem evalParts_ok {c : Cx} {fr : Fr} {ρ : Operand → Value} (he : Ev E c fr ρ) : ∀ (ps : List (Nat × Operand)) (vs : List (Nat × PV)), evalParts fr ps = some vs →
    PL E c vs (ps.map fun p => (p.1, ρ p.2))
  | [], vs, h => by simp [evalParts] at h; subst h; exact .nil
  | p :: ps, vs, h => by
    simp only [evalParts, List.mapM_cons] at h
    cases hx : Fr.eval fr p.2 with
    | none => simp [hx] at h
    | some v =>
      cases hs : ps.mapM fun p => (Fr.eval fr p.2).map fun v => (p.1, v) with
      | none => simp [hx, hs] at h
      | some us =>
        simp [hx, hs] at h; subst h
        exact .cons (he _ _ hx) (evalParts_ok he ps us hs)

theorem mapM_places (O : E.OK) {P : Program} {w : World} {lay : List TypeId} : ∀ (fs : List Field), (∀ f ∈ fs, E.kn f.type = true) →
    ((fs.mapM fun f => (do pure (f.offset, ← sizeOf f.type) : Sem (Nat × Nat))).run E.P w) = .ok (fs.map fun f => (f.offset, E.size f.type)) w
  | [], _ => by simp
  | f :: fs, h => by
    have ih := mapM_places (P := P) (lay := lay) (w := w) O fs fun g hg => h g (by simp [hg])
    simp only [List.mapM_cons, Sem.run_bind, run_size O (h f (by simp)), Result.andThen_ok, Sem.run_pure, ih, List.map_cons]

def sBuild (E : Env) (T : TypeId) (ps : List (Nat × PV)) : Option PV :=
  match E.zero T with
  | .agg t fs => if t = T then (sFill E (E.lay T) fs ps).map (.agg T) else none
  | _ => none

theorem Y_build (O : E.OK) {o : Oper} {T : TypeId} {parts : Array (Nat × Operand)} {fr : Fr} {ps : List (Nat × PV)} {v : PV} (ho : o.op = .build T parts) (hk : E.kn T = true) (hT : E.td T = .st ∨ ∃ n e, E.td T = .arr n e)
    (hp : evalParts fr parts.toList = some ps) (h : sBuild E T ps = some v) : Yld E nid o fr σ v σ := Yld_pure fun cx ρ hn he => by
  unfold sBuild at h
  split at h
  · rename_i t fs hz
    split at h
    · rename_i e; subst e
      obtain ⟨fs', hfs, rfl⟩ := Option.map_eq_some_iff.1 h
      obtain ⟨i, z, hi1, hi2, hi3, hi4⟩ := O.zero t hk
      obtain ⟨hzv, hzf⟩ := hi4 cx
      rw [hz] at hzv
      cases hzv with
      | agg _ _ _ hzv =>
        have hparts := evalParts_ok he parts.toList ps hp
        have htd := O.td t hk
        have zr : (zeroValue t).run E.P cx.w = .ok z cx.w := by simp [zeroValue, typeInfo, hi1, hi2]
        rcases hT with hT | ⟨n, e, hT⟩
        · rw [hT] at htd
          obtain ⟨fields, h1, h2, h3⟩ := htd
          have hkn : ∀ f ∈ fields.toList, E.kn f.type = true := fun f hf => by
            obtain ⟨k, hk'⟩ := List.getElem?_of_mem hf
            exact (h3 k f (by simpa using hk')).2.2.1
          have hpl : (fields.mapM fun f => (do pure (f.offset, ← sizeOf f.type) : Sem (Nat × Nat))).run E.P cx.w = .ok (fields.map fun f => (f.offset, E.size f.type)) cx.w := by
            rw [← Array.toArray_toList (xs := fields)]
            rw [List.mapM_toArray]
            simp only [Sem.run_map, mapM_places (P := E.P) (lay := []) O fields.toList hkn, Result.andThen_ok, List.map_toArray]
          obtain ⟨cs', k1, k2⟩ := fill_ok (place := fun k => (fields.map fun f => (f.offset, E.size f.type))[k]?) O.toFine (fun k T hT => by
              have hlt := getElem?_lt hT
              have hf : fields[k]? = some fields[k] := Array.getElem?_eq_getElem (by omega)
              obtain ⟨j1, j2, j3, j4⟩ := h3 k _ hf
              rw [hT] at j1; simp only [Option.some.injEq] at j1
              simp [hf, j2, ← j1, offOf]) ps _ fs fs' _ hzv hparts hfs
          refine ⟨.agg cs'.toArray, ?_, V_agg (.agg _ _ _ k2)⟩
          have hparts' : (parts.map fun x => match x with | (i, x) => (i, ρ x)).toList = parts.toList.map fun p => (p.1, ρ p.2) := by simp
          have hcells : z.cells = z.cells.toList.toArray := by simp
          simp only [execOp, ho, Sem.run_bind, Instr.build, zr, Result.andThen_ok, run_underlying h1, hpl, hparts']
          rw [hcells, k1]
          simp
        · rw [hT] at htd
          obtain ⟨h1, h2, h3, h4⟩ := htd
          obtain ⟨cs', k1, k2⟩ := fill_ok (place := fun k => some (k * E.size e, E.size e)) O.toFine (fun k T hT => by
              have hlt := getElem?_lt hT
              rw [h2] at hT hlt
              simp only [List.length_replicate] at hlt
              simp only [List.getElem?_replicate, hlt, if_true, Option.some.injEq] at hT
              subst hT
              rw [h2, rep_off E e n k (by omega)]) ps _ fs fs' _ hzv hparts hfs
          refine ⟨.agg cs'.toArray, ?_, V_agg (.agg _ _ _ k2)⟩
          have hparts' : (parts.map fun x => match x with | (i, x) => (i, ρ x)).toList = parts.toList.map fun p => (p.1, ρ p.2) := by simp
          have hcells : z.cells = z.cells.toList.toArray := by simp
          simp only [execOp, ho, Sem.run_bind, Instr.build, zr, Result.andThen_ok, run_underlying h1, run_size O h3, hparts']
          rw [hcells, k1]
          simp
    · simp at h
  · simp at h

/-- A new slice of given elements. -/
def sBuildSlice (E : Env) (e : TypeId) (len : Nat) (ps : List (Nat × PV)) : Option (List PV) := sFill E (List.replicate len e) (List.replicate len (E.zero e)) ps

theorem sFill_length : ∀ (ps : List (Nat × PV)) (lay : List TypeId) (fs fs' : List PV), sFill E lay fs ps = some fs' → fs'.length = fs.length
  | [], lay, fs, fs', h => by simp [sFill] at h; subst h; rfl
  | (k, v) :: ps, lay, fs, fs', h => by
    simp only [sFill] at h
    split at h
    · split at h
      · have := sFill_length ps lay _ fs' h; simpa using this
      · simp at h
    · simp at h

theorem Y_buildSlice (O : E.OK) {o : Oper} {T e : TypeId} {len : Nat} {parts : Array (Nat × Operand)} {fr : Fr} {ps : List (Nat × PV)} {xs : List PV}  (ho : o.op = .buildSlice T len parts) (hk : E.kn T = true) (hT : E.td T = .slice e)
    (hsz : len * E.size e ≤ 16777216) (hp : evalParts fr parts.toList = some ps) (h : sBuildSlice E e len ps = some xs) : Yld E nid o fr σ (.ref nid 0 0 len) (Store.new σ nid (.cells e 0 xs)) := fun cx ρ hn he hnid htop => by
  have htd := O.td T hk
  rw [hT] at htd
  obtain ⟨hu, hke, hpos⟩ := htd
  obtain ⟨i, z, hi1, hi2, hi3, hi4⟩ := O.zero e hke
  obtain ⟨hzv, hzf⟩ := hi4 cx
  have hzl := hzv.len O.toFine _ hzf
  have hzs : z.cells.size = E.size e := by simpa using hzl
  have hparts := evalParts_ok he parts.toList ps hp
  have zr : (zeroValue e).run E.P cx.w = .ok z cx.w := by simp [zeroValue, typeInfo, hi1, hi2]
  have hv0 := VR_rep E cx e _ _ hzv hzf len
  have hv0' : VCs E cx (List.replicate len e) (List.replicate len (E.zero e)) (List.replicate len z.cells.toList).flatten := by simpa [VR] using hv0
  obtain ⟨cs', k1, k2⟩ := fill_ok (place := fun k => some (k * E.size e, E.size e)) O.toFine (fun k U hU => by
      have hlt := getElem?_lt hU
      simp only [List.length_replicate] at hlt
      simp only [List.getElem?_replicate, hlt, if_true, Option.some.injEq] at hU
      subst hU
      rw [rep_off E e len k (by omega)]) ps _ _ xs _ hv0' hparts h
  have hxl : xs.length = len := by rw [sFill_length ps _ _ xs h]; simp
  have hparts' : (parts.map fun x => match x with | (i, x) => (i, ρ x)).toList = parts.toList.map fun p => (p.1, ρ p.2) := by simp
  have k2' : VR E cx e xs cs' := by rw [VR, hxl]; exact k2
  have hcl := VR.length O.toFine k2'
  obtain ⟨cx', j1, j2, j3, j4, j5, j6⟩ := new_ok' (w := cx.w.alloc (.cells cs'.toArray e)) hn hnid htop (el := e) (ca := cs'.toArray) rfl rfl rfl rfl k2' (Win_self cs') (by simp) (fz := (0, 0))
  refine ⟨.value (.slice (some ⟨cx.w.heap.size, 0, none⟩) len len), _, _, cx', ?_, .inl rfl, j1, j2, V_newref j5 j4 rfl rfl (Nat.le_refl _) (by simp [hcl, hxl]), j3, j6⟩
  have h24 : ¬ (len * E.size e > 2 ^ 24) := by
    have : (2 : Nat) ^ 24 = 16777216 := by decide
    omega
  have hz0 : Builtin.zeroCells z.cells len = ((List.replicate len z.cells.toList).flatten).toArray := zeroCells_eq _ _
  simp only [Builtin.zeroCells, hzs] at hz0
  simp only [execOp, ho, Sem.run_bind, Instr.buildSlice, run_underlying hu, Result.andThen_ok, run_size O hke, h24, if_false, Sem.run_pure, hparts']
  by_cases h0 : len * E.size e = 0
  · have e0 : (List.replicate len z.cells.toList).flatten = [] := List.eq_nil_of_length_eq_zero (by rw [flat_len, hzl]; exact h0)
    rw [e0] at k1
    have e2 : (Array.map (fun x => (#[] : Array Value)[x % (#[] : Array Value).size]!) (Array.range 0)) = ([] : List Value).toArray := by simp
    simp only [h0, if_true, pure_bind]
    rw [e2, k1]
    simp [newRow]
  · simp only [h0, if_false, Sem.run_bind, zr, Result.andThen_ok, Sem.run_pure, hzs]
    rw [hz0, k1]
    simp [newRow]

/-- make of a slice. -/
theorem Y_makeSlice (O : E.OK) {o : Oper} {T e : TypeId} {l c : Operand} {fr : Fr} {k k' : IntKind} {n m : Int}  (ho : o.op = .makeSlice T l c) (hk : E.kn T = true) (hT : E.td T = .slice e)
    (hl : Fr.eval fr l = some (.int k n)) (hc : Fr.eval fr c = some (.int k' m)) (h0 : 0 ≤ n) (h1 : n ≤ m) (h2 : m ≤ 16777216) (h3 : E.bytes e ≤ 16777216) : Yld E nid o fr σ (.ref nid 0 0 n.toNat) (Store.new σ nid (.cells e 0 (List.replicate n.toNat (E.zero e)))) := fun cx ρ hn he hnid htop => by
  have htd := O.td T hk
  rw [hT] at htd
  obtain ⟨hu, hke, hpos⟩ := htd
  obtain ⟨i, z, hi1, hi2, hi3, hi4⟩ := O.zero e hke
  obtain ⟨i', hj1, hj2, hj3⟩ := O.info e hke
  rw [hi1] at hj1; simp only [Option.some.injEq] at hj1; subst hj1
  obtain ⟨hzv, hzf⟩ := hi4 cx
  have hzl := hzv.len O.toFine _ hzf
  have hzs : z.cells.size = E.size e := by simpa using hzl
  have hv0 := VR_rep E cx e _ _ hzv hzf n.toNat
  have hcl := VR.length O.toFine hv0
  obtain ⟨cx', j1, j2, j3, j4, j5, j6⟩ := new_ok' (w := cx.w.alloc (.cells (Builtin.zeroCells z.cells m.toNat) e)) hn hnid htop (el := e) (ca := Builtin.zeroCells z.cells m.toNat) rfl rfl rfl rfl hv0
    (fun j v hv => by
      rw [zeroCells_eq]
      have : (List.replicate m.toNat z.cells.toList).flatten = (List.replicate n.toNat z.cells.toList).flatten ++ (List.replicate (m.toNat - n.toNat) z.cells.toList).flatten := by
        rw [← List.flatten_append, List.replicate_append_replicate]; congr 2; omega
      have hj := getElem?_lt hv
      simp only [Nat.zero_add, List.getElem?_toArray, this]
      rw [List.getElem?_append_left hj]; exact hv)
    (by rw [zeroCells_eq, flat_len]; simp only [List.size_toArray, flat_len]; exact Nat.mul_le_mul_right _ (by omega)) (fz := (0, 0))
  refine ⟨.value (.slice (some ⟨cx.w.heap.size, 0, none⟩) n.toNat m.toNat), _, _, cx', ?_, .inl rfl, j1, j2, V_newref j5 j4 rfl rfl (by omega) ?_, j3, j6⟩
  · have w1 : IntKind.i64.wrap n = n := by simp only [IntKind.wrap, IntKind.bits, IntKind.signed]; simp; omega
    have w2 : IntKind.i64.wrap m = m := by simp only [IntKind.wrap, IntKind.bits, IntKind.signed]; simp; omega
    have hb : ¬ (281474976710656 < (i.bytes : Int) * m) := by
      rw [hj3]
      have a1 : (E.bytes e : Int) * m ≤ 16777216 * m := Int.mul_le_mul_of_nonneg_right (by omega) (by omega)
      omega
    have hm0 : ¬ m < 0 := by omega
    have hn0 : ¬ n < 0 := by omega
    have hnm : ¬ m < n := by omega
    simp only [execOp, ho, V.int_inv (he l _ hl), V.int_inv (he c _ hc)]
    simp [Instr.makeSlice, run_underlying hu, asInt, asIntOf, typeInfo, hi1, w1, w2, hb, hm0, hn0, hnm, run_size O hke]
    by_cases hz : m.toNat * E.size e = 0
    · have hm : m.toNat = 0 := by
        rcases Nat.mul_eq_zero.1 hz with h | h <;> omega
      have hr : Array.range 0 = #[] := rfl
      simp [hm, newRow, Builtin.zeroCells, hr]
    · simp [hz, zeroValue, typeInfo, hi1, hi2, newRow, Builtin.zeroCells, hzs]
  · simp only [zeroCells_eq, List.size_toArray, flat_len, hzl]; omega

theorem Y_makeInterface (O : E.OK) {o : Oper} {T : TypeId} {x : Operand} {fr : Fr} {xv : PV} (ho : o.op = .makeInterface T x) (hk : E.kn T = true) (hT : E.td T ≠ .ifc) (hT2 : E.td T ≠ .other) (hx : Fr.eval fr x = some xv) (hne : fits E T xv = true) : Yld E nid o fr σ (.iface T xv) σ := Yld_pure fun cx ρ hn he => by
  have htd := O.td T hk
  have hv := he x xv hx
  have hrun : (execOp ρ o).run E.P cx.w = .ok (.value (.iface T (ρ x))) cx.w := by
    simp only [execOp, ho, Sem.run_bind, Instr.makeInterface]
    cases hd : E.td T with
    | ifc => exact absurd hd hT
    | other => exact absurd hd hT2
    | st => rw [hd] at htd; obtain ⟨f, h1, _⟩ := htd; simp [run_underlying h1]
    | bool => rw [hd] at htd; simp [run_underlying (show E.P.underlying T = _ from htd)]
    | int k => rw [hd] at htd; simp [run_underlying (show E.P.underlying T = _ from htd)]
    | str => rw [hd] at htd; simp [run_underlying (show E.P.underlying T = _ from htd)]
    | ptr e => rw [hd] at htd; simp [run_underlying (show E.P.underlying T = _ from htd)]
    | slice e => rw [hd] at htd; simp [run_underlying htd.1]
    | arr n e => rw [hd] at htd; simp [run_underlying htd.1]
    | map k e => rw [hd] at htd; simp [run_underlying htd.1]
    | fn => rw [hd] at htd; obtain ⟨ps, rs, vv, h1⟩ := htd; simp [run_underlying h1]
  refine ⟨_, hrun, ?_⟩
  generalize ρ x = r at hv ⊢
  cases hv with
  | undef hs => simp [fits] at hne
  | one h1 hn' h hs => exact V_one (.ifaceS _ _ _ h1 h) (by simp)
  | agg h hs => exact V_one (.ifaceA _ _ _ _ h) (by simp)
  | tup h hs => simp [fits] at hne

/-- A text of bytes. -/
def bytesOf : List PV → Option (List UInt8)
  | [] => some []
  | .int .u8 n :: xs => match bytesOf xs with
    | some l => if 0 ≤ n ∧ n < 256 then some (UInt8.ofNat n.toNat :: l) else none
    | none => none
  | _ :: _ => none

theorem bytesOf_cells {c : Cx} {e : TypeId} : ∀ {xs : List PV} {l : List UInt8} {cs : List Value}, bytesOf xs = some l → VR E c e xs cs → cs = l.map fun b => .int .u8 b.toNat
  | [], l, cs, h, hv => by
    simp [bytesOf] at h; subst h
    cases hv; rfl
  | x :: xs, l, cs, h, hv => by
    obtain ⟨ds, es, rfl, hf, hx, hs⟩ := hv.uncons
    cases x <;> first | (simp [bytesOf] at h; done) | skip
    rename_i k n
    cases k <;> first | (simp [bytesOf] at h; done) | skip
    simp only [bytesOf] at h
    split at h
    · rename_i l' hl'
      split at h
      · rename_i hn
        simp only [Option.some.injEq] at h; subst h
        cases hx with
        | int _ _ =>
          have := bytesOf_cells hl' hs
          subst this
          have e : ((UInt8.ofNat n.toNat).toNat : Int) = n := by
            simp only [UInt8.toNat_ofNat']; omega
          simp only [List.map_cons, List.singleton_append, e]
      · simp at h
    · simp at h

theorem fold_push : ∀ (l : List UInt8) (s : ByteArray), l.foldl (fun s b => s.push b) s = ⟨s.data ++ l.toArray⟩
  | [], s => by apply ByteArray.ext; simp
  | b :: l, s => by
    simp only [List.foldl_cons]
    rw [fold_push l]
    apply ByteArray.ext
    simp [ByteArray.push]

theorem byte_plain {E : Env} (O : E.OK) {e : TypeId} (hk : E.kn e = true) (hE : E.td e = .int .u8) : E.agg e = false ∧ E.size e = 1 := by
  obtain ⟨d, h1, h2⟩ := O.und e hk
  have h3 := O.td e hk
  rw [hE] at h3
  have h3 : E.P.underlying e = some (.int .u8) := h3
  rw [h1, Option.some.injEq] at h3; subst h3
  have h2 : E.agg e = false := h2
  exact ⟨h2, O.scalar e h2⟩
theorem bytesOf_fit {E : Env} {e : TypeId} (ha : E.agg e = false) : ∀ {ys : List PV} {l : List UInt8}, bytesOf ys = some l → ∀ y ∈ ys, fits E e y = true
  | [], l, _, y, hy => by simp at hy
  | x :: ys, l, h, y, hy => by
    cases x <;> first | (simp [bytesOf] at h; done) | skip
    rename_i k n
    cases k <;> first | (simp [bytesOf] at h; done) | skip
    simp only [bytesOf] at h
    split at h
    · rename_i l' hl'
      rcases List.mem_cons.1 hy with rfl | hy
      · simp [fits, ha]
      · exact bytesOf_fit ha hl' y hy
    · simp at h

/-- Bytes as a text. -/
def sConvStr (E : Env) (T : TypeId) (ys : List PV) : Option PV :=
  match E.td T with
  | .slice e => (match E.td e, bytesOf ys with | .int .u8, some l => if E.kn T then some (.str ⟨l.toArray⟩) else none | _, _ => none)
  | _ => none
theorem Y_convStr {E : Env} (O : E.OK) {o : Oper} {T U : TypeId} {x : Operand} {fr : Fr} {σ : Store} {nid : Nat} {ys : List PV} {r : PV} (ho : o.op = .convert T U x) (hx : Fr.eval fr x = some (.lit ys)) (hkU : E.kn U = true) (hU : E.td U = .str)
    (h : sConvStr E T ys = some r) : Yld E nid o fr σ r σ := Yld_pure fun cx ρ hn he => by
  unfold sConvStr at h
  split at h
  · rename_i e hT
    split at h
    · rename_i l hE hl
      split at h
      · rename_i hkT
        simp only [Option.some.injEq] at h; subst h
        have hu := O.td T hkT; rw [hT] at hu
        obtain ⟨hu, hke, _⟩ := hu
        have hue := O.td e hke
        have hue : E.P.underlying e = some (.int .u8) := by rw [hE] at hue; exact hue
        have huU := O.td U hkU; rw [hU] at huU
        have huU : E.P.underlying U = some .string := huU
        obtain ⟨ha, hsz⟩ := byte_plain O hke hE
        have hv := he x _ hx
        obtain ⟨cs, hr, hrun⟩ := list_ok O hn hv (show sList (.lit ys) σ = some ys from rfl) (bytesOf_fit ha hl)
        have hcs := bytesOf_cells hl hr
        obtain ⟨hlen, hcells⟩ := hrun cx.w (fun _ _ => rfl)
        have hsl : ∃ ad n c, ρ x = .slice ad n c := by
          rcases hv.lit_inv with ⟨_, k, n, hk⟩ | ⟨_, _, _, _, _, _, _, _, hk, _⟩
          · exact ⟨_, _, _, hk⟩
          · exact ⟨_, _, _, hk⟩
        obtain ⟨ad, n, c, hv'⟩ := hsl
        have hfold : ∀ (l : List UInt8) (r : ByteArray), (l.map (fun b => (b.toNat : Int))).foldl (fun r n => r.push (UInt8.ofNat n.toNat)) r = ⟨r.data ++ l.toArray⟩ := fun l => by
          induction l with
          | nil => intro r; simp
          | cons b l ih =>
            intro r
            simp only [List.map_cons, List.foldl_cons]
            rw [ih]
            simp [ByteArray.push]
        have hb2 : (Conv.bytesToString (.slice ad n c)).run E.P cx.w = .ok (.string ⟨l.toArray⟩) cx.w := by
          rw [hv'] at hlen hcells
          simp only [Builtin.lenOf, Sem.run_pure, Result.ok.injEq, and_true] at hlen
          have hn' : n = ys.length := by simpa using hlen
          cases ad with
          | none =>
            have : l = [] := by
              have hcs0 : cs = [] := by simpa [Builtin.firstCells] using hcells
              rw [hcs0] at hcs
              simpa using hcs.symm
            subst this
            simp [Conv.bytesToString]; rfl
          | some ad =>
            have hc : (loadCells ad n).run E.P cx.w = .ok ((l.map fun b => (b.toNat : Int)).map (Value.int .u8)).toArray cx.w := by
              have : (l.map fun b => (b.toNat : Int)).map (Value.int .u8) = cs := by rw [hcs, List.map_map]; rfl
              rw [this, hn']
              simpa [Builtin.firstCells, hsz] using hcells
            rw [run_bytesToString cx.w ad n c _ hc, hfold]
            simp
        refine ⟨.string ⟨l.toArray⟩, ?_, V_one (.str _) (by simp)⟩
        simp only [execOp, ho, hv', Sem.run_bind, run_convert_bytes_string cx.w T U e ad n c hu hue huU, hb2, Result.andThen_ok, Sem.run_pure]
      · simp at h
    · simp at h
  · simp at h

end
end Go.Proofs.Ythllcknfidnfaaa
