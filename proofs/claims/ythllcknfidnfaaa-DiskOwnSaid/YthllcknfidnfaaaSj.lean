/- Operations, going on: what builtins do: len, min, max, append; new slices; structs. -/
import Derived.Test.YthllcknfidnfaaaSi
set_option linter.unusedVariables false
set_option linter.unusedSimpArgs false
namespace Go.Proofs.Ythllcknfidnfaaa
open Go

section
variable {E : Env} {cx : Cx} {σ : Store} {nid : Nat}

/-- Operands in a row. -/
theorem VL_map {c : Cx} {fr : Fr} {ρ : Operand → Value} (he : Ev E c fr ρ) : ∀ {xs : List Operand} {vs : List PV}, xs.mapM (Fr.eval fr) = some vs → VL E c vs (xs.map ρ)
  | [], vs, h => by simp at h; subst h; exact .nil
  | x :: xs, vs, h => by
    simp only [List.mapM_cons] at h
    cases hx : Fr.eval fr x with
    | none => simp [hx] at h
    | some v =>
      cases hs : xs.mapM (Fr.eval fr) with
      | none => simp [hx, hs] at h
      | some us =>
        simp [hx, hs] at h; subst h
        have h1 : VL E c [v] [ρ x] := he x v hx
        have h2 := VL_map he hs
        simp only [List.map_cons]
        generalize ρ x = r at h1 ⊢
        cases h1 with
        | undef _ => exact .undef h2
        | one a b c _ => exact .one a b c h2
        | agg a _ => exact .agg a h2
        | tup a _ => exact .tup a h2

theorem run_builtin {ρ : Operand → Value} {o : Oper} {c : Call} {b : Builtin} (ho : o.op = .call c) (hc : c.callee = .builtin b) :
    execOp ρ o = builtin b c.argTypes o.type (c.args.map fun | .const _ => true | _ => false) (c.args.map ρ) := by
  simp only [execOp, ho, resolve, hc, invoke]
  rfl

def sLen (E : Env) (T : TypeId) (x : PV) (σ : Store) : Option PV :=
  match E.td T, x with
  | .slice _, .lit xs => some (.int .i64 xs.length)
  | .slice _, .nils => some (.int .i64 0)
  | .slice _, .ref b g _ len => match Store.at σ b with | some (.cells _ g' _) => if g' = g then some (.int .i64 len) else none | _ => none
  | .str, .str s => some (.int .i64 s.size)
  | .map K _, .map b => match Store.at σ b with | some (.mp K' es) => if K' = K then some (.int .i64 es.length) else none | _ => none
  | _, _ => none

theorem Y_len (O : E.OK) {o : Oper} {c : Call} {x : Operand} {T : TypeId} {fr : Fr} {xv v : PV} (ho : o.op = .call c) (hc : c.callee = .builtin .len) (ha : c.args = #[x]) (ht : c.argTypes = #[T]) (hx : Fr.eval fr x = some xv) (hk : E.kn T = true)
    (h : sLen E T xv σ = some v) : Yld E nid o fr σ v σ := Yld_pure fun cx ρ hn he => by
  have hv := he x xv hx
  have htd := O.td T hk
  rw [run_builtin ho hc, ha, ht]
  unfold sLen at h
  split at h
  · rename_i xs hT
    rw [hT] at htd
    simp only [Option.some.injEq] at h; subst h
    refine ⟨.int .i64 xs.length, ?_, V_one (.int _ _) (by simp)⟩
    rcases hv.lit_inv with ⟨rfl, a, n, hval⟩ | ⟨U, b, o', cap, cs, ca, el, fz, hval, _⟩ <;> simp [builtin, Builtin.len_, run_underlying htd.1, hval, goInt]
  · rename_i hT
    rw [hT] at htd
    simp only [Option.some.injEq] at h; subst h
    obtain ⟨a, hval⟩ := hv.nils_inv
    exact ⟨.int .i64 0, by simp [builtin, Builtin.len_, run_underlying htd.1, hval, goInt], V_one (.int _ _) (by simp)⟩
  · rename_i b g off len hT
    rw [hT] at htd
    split at h
    · rename_i ty g' xs hb
      split at h
      · rename_i hg; subst hg
        simp only [Option.some.injEq] at h; subst h
        obtain ⟨m, ca, el, fz, cs, j1, j2, _⟩ := hn.blk hb
        obtain ⟨a, cap, hval, _⟩ := hv.ref_inv.2.2 m j1 j2
        exact ⟨.int .i64 len, by simp [builtin, Builtin.len_, run_underlying htd.1, hval, goInt], V_one (.int _ _) (by simp)⟩
      · simp at h
    · simp at h
  · rename_i s hT
    rw [hT] at htd
    simp only [Option.some.injEq] at h; subst h
    exact ⟨.int .i64 s.size, by simp [builtin, Builtin.len_, run_underlying (show E.P.underlying T = some .string from htd), V.str_inv hv, goInt], V_one (.int _ _) (by simp)⟩
  · rename_i K e b hT
    rw [hT] at htd
    split at h
    · rename_i K' es hb
      split at h
      · rename_i hK; subst hK
        simp only [Option.some.injEq] at h; subst h
        obtain ⟨m, ds, h1, h2, h3, h4, h5, h6⟩ := hn.mp hb hv
        have hl := h5.len htd.1 o.type
        refine ⟨.int .i64 es.length, ?_, V_one (.int _ _) (by simp)⟩
        rw [h6.len]
        simp only [Maps.size] at hl
        simp [builtin, h4, hl, Result.andThen]
      · simp at h
    · simp at h
  · simp at h

theorem Y_cap (O : E.OK) {o : Oper} {c : Call} {x : Operand} {T e : TypeId} {fr : Fr} (ho : o.op = .call c) (hc : c.callee = .builtin .cap) (ha : c.args = #[x]) (ht : c.argTypes = #[T]) (hx : Fr.eval fr x = some .nils) (hk : E.kn T = true) (hT : E.td T = .slice e) :
    Yld E nid o fr σ (.int .i64 0) σ := Yld_pure fun cx ρ hn he => by
  have hv := he x _ hx
  have htd := O.td T hk
  rw [hT] at htd
  obtain ⟨a, hval⟩ := hv.nils_inv
  rw [run_builtin ho hc, ha, ht]
  exact ⟨.int .i64 0, by simp [builtin, Builtin.cap_, run_underlying htd.1, hval, goInt], V_one (.int _ _) (by simp)⟩

theorem Y_min2 {o : Oper} {c : Call} {x y : Operand} {fr : Fr} {k : IntKind} {a b : Int} (ho : o.op = .call c) (hc : c.callee = .builtin .min) (ha : c.args = #[x, y]) (hx : Fr.eval fr x = some (.int k a)) (hy : Fr.eval fr y = some (.int k b)) :
    Yld E nid o fr σ (.int k (min a b)) σ := Yld_pure fun cx ρ hn he => by
  rw [run_builtin ho hc, ha]
  refine ⟨.int k (min a b), ?_, V_one (.int _ _) (by simp)⟩
  simp [builtin, Builtin.min_, Builtin.min2, V.int_inv (he x _ hx), V.int_inv (he y _ hy)]
  rw [Int.min_def]; split <;> split <;> omega

theorem Y_max2 {o : Oper} {c : Call} {x y : Operand} {fr : Fr} {k : IntKind} {a b : Int} (ho : o.op = .call c) (hc : c.callee = .builtin .max) (ha : c.args = #[x, y]) (hx : Fr.eval fr x = some (.int k a)) (hy : Fr.eval fr y = some (.int k b)) :
    Yld E nid o fr σ (.int k (max a b)) σ := Yld_pure fun cx ρ hn he => by
  rw [run_builtin ho hc, ha]
  refine ⟨.int k (max a b), ?_, V_one (.int _ _) (by simp)⟩
  simp [builtin, Builtin.max_, Builtin.max2, V.int_inv (he x _ hx), V.int_inv (he y _ hy)]
  rw [Int.max_def]; split <;> split <;> omega

theorem Y_max3 {o : Oper} {c : Call} {x y z : Operand} {fr : Fr} {k : IntKind} {a b d : Int} (ho : o.op = .call c) (hc : c.callee = .builtin .max) (ha : c.args = #[x, y, z]) (hx : Fr.eval fr x = some (.int k a)) (hy : Fr.eval fr y = some (.int k b)) (hz : Fr.eval fr z = some (.int k d)) :
    Yld E nid o fr σ (.int k (max (max a b) d)) σ := Yld_pure fun cx ρ hn he => by
  rw [run_builtin ho hc, ha]
  refine ⟨.int k (max (max a b) d), ?_, V_one (.int _ _) (by simp)⟩
  simp [builtin, Builtin.max_, Builtin.max2, V.int_inv (he x _ hx), V.int_inv (he y _ hy), V.int_inv (he z _ hz)]
  have : (if a < b then b else a) = max a b := by rw [Int.max_def]; split <;> split <;> omega
  rw [this]; rw [← Int.max_assoc] ; rw [Int.max_def (max a b) d]; split <;> split <;> omega

/-- A slice's elements, or a text's bytes. -/
def sList (x : PV) (σ : Store) : Option (List PV) :=
  match x with
  | .lit xs => some xs
  | .nils => some []
  | .ref b g off len => match Store.at σ b with | some (.cells _ g' xs) => if g' = g ∧ off + len ≤ xs.length then some ((xs.drop off).take len) else none | _ => none
  | .str s => some (s.data.toList.map fun b => .int .u8 b.toNat)
  | _ => none

theorem VR_bytes (E : Env) (F : E.Fine) {e : TypeId} (c : Cx) : ∀ (l : List UInt8), (∀ x ∈ l.map fun b => PV.int .u8 b.toNat, fits E e x = true) → VR E c e (l.map fun b => .int .u8 b.toNat) (l.map fun b => .int .u8 b.toNat)
  | [], _ => .nil
  | b :: l, h => by
    have := VR.cons (h _ (by simp)) (VC.int (E := E) (c := c) .u8 b.toNat) (VR_bytes E F c l fun x hx => h x (by simp at hx ⊢; exact .inr hx))
    simpa using this

theorem loadCells_win {P : Program} {w : World} {k o : Nat} {ca : Array Value} {e : TypeId} {fz : Nat × Nat} {cs : List Value} (hw : w.heap[k]? = some (.cells ca e fz)) (hwin : Win ca o cs) {n : Nat} (hl : cs.length = n) :
    (loadCells ⟨k, o, none⟩ n).run P w = .ok cs.toArray w := by
  subst hl; exact run_loadCells_list w _ cs (cell_of_win hw hwin)

theorem list_ok (O : E.OK) (hn : Now E cx σ) {e : TypeId} {x : PV} {ys : List PV} {val : Value} (hx : V E cx x val) (h : sList x σ = some ys) (hf : ∀ y ∈ ys, fits E e y = true) :
    ∃ cs, VR E cx e ys cs ∧ ∀ w, (∀ k, k < cx.w.heap.size → w.heap[k]? = cx.w.heap[k]?) → (Builtin.lenOf val).run E.P w = .ok ys.length w ∧ (Builtin.firstCells (E.size e) ys.length val).run E.P w = .ok cs.toArray w := by
  unfold sList at h
  split at h
  · simp only [Option.some.injEq] at h; subst h
    rcases hx.lit_inv with ⟨rfl, a, n, rfl⟩ | ⟨U, b, o', cap, cs, ca, el, fz, rfl, hI, hw, hcs, hwin, hcap⟩
    · refine ⟨[], .nil, fun w hw' => ⟨by simp [Builtin.lenOf], ?_⟩⟩
      cases a <;> simp [Builtin.firstCells, loadCells, loadCellsFrom]
    · have v1 := VCs.unpure (VR.cast O.toFine hcs hf)
      refine ⟨cs, v1, fun w hw' => ⟨by simp [Builtin.lenOf], ?_⟩⟩
      simp only [Builtin.firstCells]
      exact loadCells_win ((hw' b (hn.immI b hI)).trans hw) hwin (VR.length O.toFine v1)
  · simp only [Option.some.injEq] at h; subst h
    obtain ⟨a, rfl⟩ := hx.nils_inv
    refine ⟨[], .nil, fun w hw' => ⟨by simp [Builtin.lenOf], ?_⟩⟩
    cases a <;> simp [Builtin.firstCells, loadCells, loadCellsFrom]
  · rename_i b g off len
    split at h
    · rename_i ty g' xs hb
      split at h
      · rename_i hc
        obtain ⟨rfl, hl⟩ := hc
        simp only [Option.some.injEq] at h; subst h
        obtain ⟨m, ca, el, fz, cs, j1, j2, j3, j4, j5, j6, j7, j8, j9⟩ := hn.blk hb
        obtain ⟨a, cap, rfl, hcap, hh⟩ := hx.ref_inv.2.2 m j1 j2
        have v1 : VR E cx ty xs cs := j6
        have v2 := VR.cast O.toFine ((v1.drop O.toFine off).take O.toFine len) hf
        have hlen : ((xs.drop off).take len).length = len := by simp; omega
        refine ⟨_, v2, fun w hw' => ⟨by simp [Builtin.lenOf]; omega, ?_⟩⟩
        have hlt : m.blk < cx.w.heap.size := by obtain ⟨_, _, h, _⟩ := hn.dom b m j1; exact h
        rw [hlen]
        rcases hh with rfl | ⟨rfl, hfit⟩
        · have : len = 0 := by omega
          subst this
          cases a <;> simp [Builtin.firstCells, loadCells, loadCellsFrom]
        · simp only [Builtin.firstCells]
          have hw2 := LW.win j7 ((LW_drop cs (off * E.size ty)).trans (LW_take (cs.drop (off * E.size ty)) (len * E.size ty)))
          simp only [Nat.add_zero] at hw2
          rw [j3]
          exact loadCells_win ((hw' _ hlt).trans j4) hw2 ((VR.length O.toFine v2).trans (by rw [hlen]))
      · simp at h
    · simp at h
  · rename_i s
    simp only [Option.some.injEq] at h; subst h
    have := V.str_inv hx; subst this
    refine ⟨_, VR_bytes E O.toFine cx _ hf, fun w hw' => ⟨by simp [Builtin.lenOf], ?_⟩⟩
    have e1 : s.extract 0 s.size = s := by simp
    have e2 : (List.map (fun b : UInt8 => PV.int .u8 b.toNat) s.data.toList).length = s.size := by simp
    rw [e2]
    simp only [Builtin.firstCells, e1, Sem.run_pure]
    congr 1
    apply Array.ext'; simp
  · simp at h

theorem growBy_le (n B : Nat) (hB : n + (n + 768) / 4 ≤ B) : ∀ (r c : Nat), c ≤ B → Builtin.growBy n r c ≤ B
  | 0, c, h => h
  | r + 1, c, h => by
    simp only [Builtin.growBy]
    split
    · exact h
    · exact growBy_le n B hB r _ (by omega)

theorem nextcap_le (need old : Nat) (h : old < need) : Builtin.nextslicecap need old ≤ 2 * need + 1000 := by
  unfold Builtin.nextslicecap
  split
  · omega
  · split
    · omega
    · exact growBy_le need _ (by omega) 4 old (by omega)

/-- What is appended: a slice's elements, or so many zeros. -/
def sApp (E : Env) (e : TypeId) (x : PV) (σ : Store) (zeros : Bool) : Option (List PV) :=
  if zeros then (match x with | .int .i64 n => if 0 ≤ n ∧ n < 1073741824 then some (List.replicate n.toNat (E.zero e)) else none | _ => none) else sList x σ

def sAppend (E : Env) (e : TypeId) (s : PV) (ys : List PV) (σ : Store) (nid : Nat) : Option (PV × Store) :=
  match s with
  | .nils => match ys with
    | [] => some (.nils, σ)
    | _ => if (2 * ys.length + 1000) * E.bytes e ≤ 281474976710656 then some (.ref nid 0 0 ys.length, Store.new σ nid (.cells e 0 ys)) else none
  | .ref b g off len => match Store.at σ b with
    | some (.cells ty g' xs) => if g' = g ∧ ty = e ∧ off + len ≤ xs.length ∧ (2 * (len + ys.length) + 1000) * E.bytes e ≤ 281474976710656 then
        some (.ref b (g + 1) 0 (len + ys.length), σ.set b (some (.cells e (g + 1) ((xs.take (off + len)).drop off ++ ys)))) else none
    | _ => none
  | _ => none

theorem VR_rep (E : Env) (c : Cx) (e : TypeId) (z : PV) (cs : List Value) (hz : VC E c z cs) (hf : fits E e z = true) : ∀ n, VR E c e (List.replicate n z) ((List.replicate n cs).flatten)
  | 0 => .nil
  | n + 1 => by
    have := VR.cons hf hz (VR_rep E c e z cs hz hf n)
    simpa [List.replicate_succ] using this

theorem zeroCells_eq (z : Array Value) (n : Nat) : Builtin.zeroCells z n = ((List.replicate n z.toList).flatten).toArray := by
  apply Array.ext'
  simp only [Builtin.zeroCells, Array.toList_map, Array.toList_range]
  induction n with
  | zero => simp
  | succ n ih =>
    rw [Nat.add_mul, Nat.one_mul, List.range_add, List.map_append, ih, List.replicate_succ', List.flatten_append]
    congr 1
    simp only [List.map_map, List.flatten_cons, List.flatten_nil, List.append_nil]
    apply List.ext_getElem?
    intro j
    simp only [List.getElem?_map, List.getElem?_range]
    by_cases hj : j < z.size
    · simp [hj, List.getElem?_range, Nat.mod_eq_of_lt hj, Nat.add_mod, getElem!_def]
    · simp [hj, List.getElem?_eq_none]

end
end Go.Proofs.Ythllcknfidnfaaa
