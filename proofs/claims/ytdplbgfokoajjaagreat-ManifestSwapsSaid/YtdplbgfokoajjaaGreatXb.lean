/- Operations, going on: what builtins do: len, min, max, append; new slices; structs. -/
import Derived.Test.YtdplbgfokoajjaaGreatXa
import Derived.Laws.BytesString
import Derived.StringKeys
import Derived.Lib.SliceRun
import Derived.Laws.IdiomStrings
section
set_option maxRecDepth 20000
set_option linter.unusedVariables false
set_option linter.unusedSimpArgs false
namespace Go.Proofs.YtdplbgfokoajjaaGreat
open Go
section
variable {E : Env} {cx : Cx} {σ : Store} {nid : Nat}
theorem VL_map {c : Cx} {fr : Fr} {ρ : Operand → Value} (he : Ev E c fr ρ) : ∀ {xs : List Operand} {vs : List PV}, xs.mapM (Fr.eval fr) = some vs → VL E c vs (xs.map ρ)
 | [], vs, h => by simp at h; subst h; exact .nil
 | x :: xs, vs, h => by
  simp only [List.mapM_cons] at h
  cases hx : Fr.eval fr x with
  | none => simp [hx] at h
  | some v =>
   cases hs : xs.mapM (Fr.eval fr) with
   | none => simp [hx, hs] at h
   | some us =>
    simp [hx, hs] at h; subst h
    have h1 : VL E c [v] [ρ x] := he x v hx
    have h2 := VL_map he hs
    simp only [List.map_cons]
    generalize ρ x = r at h1 ⊢
    cases h1 with
    | undef _ => exact .undef h2
    | one a b c _ => exact .one a b c h2
    | agg a _ => exact .agg a h2
    | tup a _ => exact .tup a h2
theorem run_builtin {ρ : Operand → Value} {o : Oper} {c : Call} {b : Builtin} (ho : o.op = .call c) (hc : c.callee = .builtin b) :
  execOp ρ o = builtin b c.argTypes o.type (c.args.map fun | .const _ => true | _ => false) (c.args.map ρ) := by
 simp only [execOp, ho, resolve, hc, invoke]
 rfl
def sLen (E : Env) (T : TypeId) (x : PV) (σ : Store) : Option PV :=
 match E.td T, x with
 | .slice _, .lit xs => some (.int .i64 xs.length)
 | .slice _, .nils => some (.int .i64 0)
 | .slice _, .ref b g _ len => match Store.at σ b with | some (.cells _ g' _) => if g' = g then some (.int .i64 len) else none | _ => none
 | .str, .str s => some (.int .i64 s.size)
 | .map K _, .map b => match Store.at σ b with | some (.mp K' es) => if K' = K then some (.int .i64 es.length) else none | _ => none
 | _, _ => none
theorem Y_len (O : E.OK) {o : Oper} {c : Call} {x : Operand} {T : TypeId} {fr : Fr} {xv v : PV} (ho : o.op = .call c) (hc : c.callee = .builtin .len) (ha : c.args = #[x]) (ht : c.argTypes = #[T]) (hx : Fr.eval fr x = some xv) (hk : E.kn T = true)
  (h : sLen E T xv σ = some v) : Yld E nid o fr σ v σ := Yld_pure fun cx ρ hn he => by
 have hv := he x xv hx
 have htd := O.td T hk
 rw [run_builtin ho hc, ha, ht]
 unfold sLen at h
 split at h
 ·rename_i xs hT
  rw [hT] at htd
  simp only [Option.some.injEq] at h; subst h
  refine ⟨.int .i64 xs.length, ?_, V_one (.int _ _) (by simp)⟩
  rcases hv.lit_inv with ⟨rfl, a, n, hval⟩ | ⟨U, b, o', cap, cs, ca, el, fz, hval, _⟩ <;> simp [builtin, Builtin.len_, run_underlying htd.1, hval, goInt]
 ·rename_i hT
  rw [hT] at htd
  simp only [Option.some.injEq] at h; subst h
  obtain ⟨a, hval⟩ := hv.nils_inv
  exact ⟨.int .i64 0, by simp [builtin, Builtin.len_, run_underlying htd.1, hval, goInt], V_one (.int _ _) (by simp)⟩
 ·rename_i b g off len hT
  rw [hT] at htd
  split at h
  ·rename_i ty g' xs hb
   split at h
   ·rename_i hg; subst hg
    simp only [Option.some.injEq] at h; subst h
    obtain ⟨m, ca, el, fz, cs, j1, j2, _⟩ := hn.blk hb
    obtain ⟨a, cap, hval, _⟩ := hv.ref_inv.2.2 m j1 j2
    exact ⟨.int .i64 len, by simp [builtin, Builtin.len_, run_underlying htd.1, hval, goInt], V_one (.int _ _) (by simp)⟩
   ·simp at h
  ·simp at h
 ·rename_i s hT
  rw [hT] at htd
  simp only [Option.some.injEq] at h; subst h
  exact ⟨.int .i64 s.size, by simp [builtin, Builtin.len_, run_underlying (show E.P.underlying T = some .string from htd), V.str_inv hv, goInt], V_one (.int _ _) (by simp)⟩
 ·rename_i K e b hT
  rw [hT] at htd
  split at h
  ·rename_i K' es hb
   split at h
   ·rename_i hK; subst hK
    simp only [Option.some.injEq] at h; subst h
    obtain ⟨m, ds, h1, h2, h3, h4, h5, h6⟩ := hn.mp hb hv
    have hl := h5.len htd.1 o.type
    refine ⟨.int .i64 es.length, ?_, V_one (.int _ _) (by simp)⟩
    rw [h6.len]
    simp only [Maps.size] at hl
    simp [builtin, h4, hl, Result.andThen]
   ·simp at h
  ·simp at h
 ·simp at h
theorem Y_cap (O : E.OK) {o : Oper} {c : Call} {x : Operand} {T e : TypeId} {fr : Fr} (ho : o.op = .call c) (hc : c.callee = .builtin .cap) (ha : c.args = #[x]) (ht : c.argTypes = #[T]) (hx : Fr.eval fr x = some .nils) (hk : E.kn T = true) (hT : E.td T = .slice e) :
  Yld E nid o fr σ (.int .i64 0) σ := Yld_pure fun cx ρ hn he => by
 have hv := he x _ hx
 have htd := O.td T hk
 rw [hT] at htd
 obtain ⟨a, hval⟩ := hv.nils_inv
 rw [run_builtin ho hc, ha, ht]
 exact ⟨.int .i64 0, by simp [builtin, Builtin.cap_, run_underlying htd.1, hval, goInt], V_one (.int _ _) (by simp)⟩
theorem Y_min2 {o : Oper} {c : Call} {x y : Operand} {fr : Fr} {k : IntKind} {a b : Int} (ho : o.op = .call c) (hc : c.callee = .builtin .min) (ha : c.args = #[x, y]) (hx : Fr.eval fr x = some (.int k a)) (hy : Fr.eval fr y = some (.int k b)) :
  Yld E nid o fr σ (.int k (min a b)) σ := Yld_pure fun cx ρ hn he => by
 rw [run_builtin ho hc, ha]
 refine ⟨.int k (min a b), ?_, V_one (.int _ _) (by simp)⟩
 simp [builtin, Builtin.min_, Builtin.min2, V.int_inv (he x _ hx), V.int_inv (he y _ hy)]
 rw [Int.min_def]; split <;> split <;> omega
theorem Y_max2 {o : Oper} {c : Call} {x y : Operand} {fr : Fr} {k : IntKind} {a b : Int} (ho : o.op = .call c) (hc : c.callee = .builtin .max) (ha : c.args = #[x, y]) (hx : Fr.eval fr x = some (.int k a)) (hy : Fr.eval fr y = some (.int k b)) :
  Yld E nid o fr σ (.int k (max a b)) σ := Yld_pure fun cx ρ hn he => by
 rw [run_builtin ho hc, ha]
 refine ⟨.int k (max a b), ?_, V_one (.int _ _) (by simp)⟩
 simp [builtin, Builtin.max_, Builtin.max2, V.int_inv (he x _ hx), V.int_inv (he y _ hy)]
 rw [Int.max_def]; split <;> split <;> omega
theorem Y_max3 {o : Oper} {c : Call} {x y z : Operand} {fr : Fr} {k : IntKind} {a b d : Int} (ho : o.op = .call c) (hc : c.callee = .builtin .max) (ha : c.args = #[x, y, z]) (hx : Fr.eval fr x = some (.int k a)) (hy : Fr.eval fr y = some (.int k b)) (hz : Fr.eval fr z = some (.int k d)) :
  Yld E nid o fr σ (.int k (max (max a b) d)) σ := Yld_pure fun cx ρ hn he => by
 rw [run_builtin ho hc, ha]
 refine ⟨.int k (max (max a b) d), ?_, V_one (.int _ _) (by simp)⟩
 simp [builtin, Builtin.max_, Builtin.max2, V.int_inv (he x _ hx), V.int_inv (he y _ hy), V.int_inv (he z _ hz)]
 have : (if a < b then b else a) = max a b := by rw [Int.max_def]; split <;> split <;> omega
 rw [this]; rw [← Int.max_assoc] ; rw [Int.max_def (max a b) d]; split <;> split <;> omega
def sList (x : PV) (σ : Store) : Option (List PV) :=
 match x with
 | .lit xs => some xs
 | .nils => some []
 | .ref b g off len => match Store.at σ b with | some (.cells _ g' xs) => if g' = g ∧ off + len ≤ xs.length then some ((xs.drop off).take len) else none | _ => none
 | .str s => some (s.data.toList.map fun b => .int .u8 b.toNat)
 | _ => none
theorem VR_bytes (E : Env) (F : E.Fine) {e : TypeId} (c : Cx) : ∀ (l : List UInt8), (∀ x ∈ l.map fun b => PV.int .u8 b.toNat, fits E e x = true) → VR E c e (l.map fun b => .int .u8 b.toNat) (l.map fun b => .int .u8 b.toNat)
 | [], _ => .nil
 | b :: l, h => by
  have := VR.cons (h _ (by simp)) (VC.int (E := E) (c := c) .u8 b.toNat) (VR_bytes E F c l fun x hx => h x (by simp at hx ⊢; exact .inr hx))
  simpa using this
theorem loadCells_win {P : Program} {w : World} {k o : Nat} {ca : Array Value} {e : TypeId} {fz : Nat × Nat} {cs : List Value} (hw : w.heap[k]? = some (.cells ca e fz)) (hwin : Win ca o cs) {n : Nat} (hl : cs.length = n) :
  (loadCells ⟨k, o, none⟩ n).run P w = .ok cs.toArray w := by
 subst hl; exact run_loadCells_list w _ cs (cell_of_win hw hwin)
theorem list_ok (O : E.OK) (hn : Now E cx σ) {e : TypeId} {x : PV} {ys : List PV} {val : Value} (hx : V E cx x val) (h : sList x σ = some ys) (hf : ∀ y ∈ ys, fits E e y = true) :
  ∃ cs, VR E cx e ys cs ∧ ∀ w, (∀ k, k < cx.w.heap.size → w.heap[k]? = cx.w.heap[k]?) → (Builtin.lenOf val).run E.P w = .ok ys.length w ∧ (Builtin.firstCells (E.size e) ys.length val).run E.P w = .ok cs.toArray w := by
 unfold sList at h
 split at h
 ·simp only [Option.some.injEq] at h; subst h
  rcases hx.lit_inv with ⟨rfl, a, n, rfl⟩ | ⟨U, b, o', cap, cs, ca, el, fz, rfl, hI, hw, hcs, hwin, hcap⟩
  ·refine ⟨[], .nil, fun w hw' => ⟨by simp [Builtin.lenOf], ?_⟩⟩
   cases a <;> simp [Builtin.firstCells, loadCells, loadCellsFrom]
  ·have v1 := VCs.unpure (VR.cast O.toFine hcs hf)
   refine ⟨cs, v1, fun w hw' => ⟨by simp [Builtin.lenOf], ?_⟩⟩
   simp only [Builtin.firstCells]
   exact loadCells_win ((hw' b (hn.immI b hI)).trans hw) hwin (VR.length O.toFine v1)
 ·simp only [Option.some.injEq] at h; subst h
  obtain ⟨a, rfl⟩ := hx.nils_inv
  refine ⟨[], .nil, fun w hw' => ⟨by simp [Builtin.lenOf], ?_⟩⟩
  cases a <;> simp [Builtin.firstCells, loadCells, loadCellsFrom]
 ·rename_i b g off len
  split at h
  ·rename_i ty g' xs hb
   split at h
   ·rename_i hc
    obtain ⟨rfl, hl⟩ := hc
    simp only [Option.some.injEq] at h; subst h
    obtain ⟨m, ca, el, fz, cs, j1, j2, j3, j4, j5, j6, j7, j8, j9⟩ := hn.blk hb
    obtain ⟨a, cap, rfl, hcap, hh⟩ := hx.ref_inv.2.2 m j1 j2
    have v1 : VR E cx ty xs cs := j6
    have v2 := VR.cast O.toFine ((v1.drop O.toFine off).take O.toFine len) hf
    have hlen : ((xs.drop off).take len).length = len := by simp; omega
    refine ⟨_, v2, fun w hw' => ⟨by simp [Builtin.lenOf]; omega, ?_⟩⟩
    have hlt : m.blk < cx.w.heap.size := by obtain ⟨_, _, h, _⟩ := hn.dom b m j1; exact h
    rw [hlen]
    rcases hh with rfl | ⟨rfl, hfit⟩
    ·have : len = 0 := by omega
     subst this
     cases a <;> simp [Builtin.firstCells, loadCells, loadCellsFrom]
    ·simp only [Builtin.firstCells]
     have hw2 := LW.win j7 ((LW_drop cs (off * E.size ty)).trans (LW_take (cs.drop (off * E.size ty)) (len * E.size ty)))
     simp only [Nat.add_zero] at hw2
     rw [j3]
     exact loadCells_win ((hw' _ hlt).trans j4) hw2 ((VR.length O.toFine v2).trans (by rw [hlen]))
   ·simp at h
  ·simp at h
 ·rename_i s
  simp only [Option.some.injEq] at h; subst h
  have := V.str_inv hx; subst this
  refine ⟨_, VR_bytes E O.toFine cx _ hf, fun w hw' => ⟨by simp [Builtin.lenOf], ?_⟩⟩
  have e1 : s.extract 0 s.size = s := by simp
  have e2 : (List.map (fun b : UInt8 => PV.int .u8 b.toNat) s.data.toList).length = s.size := by simp
  rw [e2]
  simp only [Builtin.firstCells, e1, Sem.run_pure]
  congr 1
  apply Array.ext'; simp
 ·simp at h
theorem growBy_le (n B : Nat) (hB : n + (n + 768) / 4 ≤ B) : ∀ (r c : Nat), c ≤ B → Builtin.growBy n r c ≤ B
 | 0, c, h => h
 | r + 1, c, h => by
  simp only [Builtin.growBy]
  split
  ·exact h
  ·exact growBy_le n B hB r _ (by omega)
theorem nextcap_le (need old : Nat) (h : old < need) : Builtin.nextslicecap need old ≤ 2 * need + 1000 := by
 unfold Builtin.nextslicecap
 split
 ·omega
 ·split
  ·omega
  ·exact growBy_le need _ (by omega) 4 old (by omega)
def sApp (E : Env) (e : TypeId) (x : PV) (σ : Store) (zeros : Bool) : Option (List PV) :=
 if zeros then (match x with | .int .i64 n => if 0 ≤ n ∧ n < 1073741824 then some (List.replicate n.toNat (E.zero e)) else none | _ => none) else sList x σ
def sAppend (E : Env) (e : TypeId) (s : PV) (ys : List PV) (σ : Store) (nid : Nat) : Option (PV × Store) :=
 match s with
 | .nils => match ys with
  | [] => some (.nils, σ)
  | _ => if (2 * ys.length + 1000) * E.bytes e ≤ 281474976710656 then some (.ref nid 0 0 ys.length, Store.new σ nid (.cells e 0 ys)) else none
 | .ref b g off len => match Store.at σ b with
  | some (.cells ty g' xs) => if g' = g ∧ ty = e ∧ off + len ≤ xs.length ∧ (2 * (len + ys.length) + 1000) * E.bytes e ≤ 281474976710656 then
    some (.ref b (g + 1) 0 (len + ys.length), σ.set b (some (.cells e (g + 1) ((xs.take (off + len)).drop off ++ ys)))) else none
  | _ => none
 | _ => none
theorem VR_rep (E : Env) (c : Cx) (e : TypeId) (z : PV) (cs : List Value) (hz : VC E c z cs) (hf : fits E e z = true) : ∀ n, VR E c e (List.replicate n z) ((List.replicate n cs).flatten)
 | 0 => .nil
 | n + 1 => by
  have := VR.cons hf hz (VR_rep E c e z cs hz hf n)
  simpa [List.replicate_succ] using this
theorem zeroCells_eq (z : Array Value) (n : Nat) : Builtin.zeroCells z n = ((List.replicate n z.toList).flatten).toArray := by
 apply Array.ext'
 simp only [Builtin.zeroCells, Array.toList_map, Array.toList_range]
 induction n with
 | zero => simp
 | succ n ih =>
  rw [Nat.add_mul, Nat.one_mul, List.range_add, List.map_append, ih, List.replicate_succ', List.flatten_append]
  congr 1
  simp only [List.map_map, List.flatten_cons, List.flatten_nil, List.append_nil]
  apply List.ext_getElem?
  intro j
  simp only [List.getElem?_map, List.getElem?_range]
  by_cases hj : j < z.size
  ·simp [hj, List.getElem?_range, Nat.mod_eq_of_lt hj, Nat.add_mod, getElem!_def]
  ·simp [hj, List.getElem?_eq_none]
end
section
variable {E : Env} {cx : Cx} {σ : Store} {nid : Nat}
theorem flat_len {α : Type} (cs : List α) : ∀ n, (List.replicate n cs).flatten.length = n * cs.length
 | 0 => by simp
 | n + 1 => by simp [List.replicate_succ, flat_len cs n, Nat.add_mul, Nat.add_comm]
theorem run_append (O : E.OK) (hn : Now E cx σ) {S X e ty : TypeId} {zeros : Bool} (hS : E.td S = .slice e) (hkS : E.kn S = true) (hkX : E.kn X = true) (hX : if zeros then E.td X = .int .i64 else (E.td X = .slice e ∨ E.td X = .str))
  {xv : PV} {val : Value} {ys : List PV} (hx : V E cx xv val) (hys : sApp E e xv σ zeros = some ys) (hf : ∀ y ∈ ys, fits E e y = true) (base : Option Addr) (len cap : Nat)
  (hbound : (2 * (len + ys.length) + 1000) * E.bytes e ≤ 281474976710656) (hneed : len + ys.length < 4611686018427387904) :
  ∃ cs, VR E cx e ys cs ∧
   (len + ys.length ≤ cap → (Builtin.append_ #[S, X] ty #[.slice base len cap, val]).run E.P cx.w =
    (match base with | some a => ((storeCells (a.add (len * E.size e)) cs).run E.P cx.w).andThen fun _ w => .ok (.slice base (len + ys.length) cap) w | none => .ok (.slice base (len + ys.length) cap) cx.w)) ∧
   (cap < len + ys.length → ∀ old : List Value, (∀ w, (∀ k, k < cx.w.heap.size → w.heap[k]? = cx.w.heap[k]?) → (Builtin.firstCells (E.size e) len (.slice base len cap)).run E.P w = .ok old.toArray w) →
    ∃ newCap rest, len + ys.length ≤ newCap ∧ rest.length = (newCap - (len + ys.length)) * E.size e ∧ (Builtin.append_ #[S, X] ty #[.slice base len cap, val]).run E.P cx.w =
     .ok (.slice (some ⟨cx.w.heap.size, 0, none⟩) (len + ys.length) newCap) (cx.w.drew.alloc (.cells (old ++ cs ++ rest).toArray e))) := by
 have htd := O.td S hkS
 rw [hS] at htd
 obtain ⟨hu, hke, hpos⟩ := htd
 obtain ⟨i, z, hi1, hi2, hi3, hi4⟩ := O.zero e hke
 obtain ⟨hzv, hzf⟩ := hi4 cx
 have hzl := hzv.len O.toFine _ hzf
 obtain ⟨i', hj1, hj2, hj3⟩ := O.info e hke
 rw [hi1] at hj1; simp only [Option.some.injEq] at hj1; subst hj1
 have key : ∃ cs, VR E cx e ys cs ∧
   ((zeros = false ∧ (E.P.underlying X = some (.slice e) ∨ E.P.underlying X = some .string) ∧
    (Builtin.lenOf val).run E.P cx.w = .ok ys.length cx.w ∧ ∀ w, (∀ k, k < cx.w.heap.size → w.heap[k]? = cx.w.heap[k]?) → (Builtin.firstCells (E.size e) ys.length val).run E.P w = .ok cs.toArray w) ∨
   (zeros = true ∧ E.P.underlying X = some (.int .i64) ∧ ys.length < 1073741824 ∧ val = .int .i64 ys.length ∧ cs.toArray = Builtin.zeroCells z.cells ys.length)) := by
  cases zeros with
  | false =>
   simp only [sApp, Bool.false_eq_true, if_false] at hys hX
   obtain ⟨cs, h1, h2⟩ := list_ok O hn hx hys hf
   have hX' := O.td X hkX
   rcases hX with hX | hX <;> rw [hX] at hX'
   ·exact ⟨cs, h1, .inl ⟨rfl, .inl hX'.1, (h2 cx.w fun _ _ => rfl).1, fun w hw => (h2 w hw).2⟩⟩
   ·exact ⟨cs, h1, .inl ⟨rfl, .inr hX', (h2 cx.w fun _ _ => rfl).1, fun w hw => (h2 w hw).2⟩⟩
  | true =>
   simp only [sApp, if_true] at hys hX
   split at hys
   ·rename_i n
    split at hys
    ·rename_i hc
     simp only [Option.some.injEq] at hys; subst hys
     have hX' := O.td X hkX
     rw [hX] at hX'
     have := V.int_inv hx; subst this
     refine ⟨_, VR_rep E cx e _ _ hzv hzf n.toNat, .inr ⟨rfl, hX', by simp; omega, by simp; omega, ?_⟩⟩
     rw [zeroCells_eq]; simp
    ·simp at hys
   ·simp at hys
 obtain ⟨cs, hcs, hkey⟩ := key
 have hcl := VR.length O.toFine hcs
 have hb48 : ∀ n, n ≤ 2 * (len + ys.length) + 1000 → ¬ (n * i.bytes > 2 ^ 48) := fun n hn => by
  rw [hj3]
  have := Nat.mul_le_mul_right (E.bytes e) hn
  have e48 : (2 : Nat) ^ 48 = 281474976710656 := by decide
  omega
 have hmaxI : IntKind.i64.max = 9223372036854775807 := by decide
 have hforced : ∀ a b c, (Question.appendCap a b c).forced = false := fun _ _ _ => rfl
 refine ⟨cs, hcs, ?_, ?_⟩
 ·intro hroom
  rcases hkey with ⟨rfl, hdX, k1, k2⟩ | ⟨rfl, hdX, k0, rfl, k3⟩
  ·have k3 := k2 cx.w fun _ _ => rfl
   rcases hdX with hdX | hdX <;> cases base <;>
    simp [Builtin.append_, run_underlying hu, run_size O hke, run_underlying hdX, k1, k3, hroom]
  ·have hw : IntKind.i64.wrap (ys.length : Int) = ys.length := by
    simp only [IntKind.wrap, IntKind.bits, IntKind.signed]; simp; omega
   have hb : ¬ ((ys.length : Int) * (i.bytes : Int) > 2 ^ 48) := by
    have := hb48 ys.length (by omega)
    have e : ((ys.length : Int) * (i.bytes : Int)) = ((ys.length * i.bytes : Nat) : Int) := by push_cast; rfl
    rw [e]; omega
   have hb' : ¬ (281474976710656 < (ys.length : Int) * (i.bytes : Int)) := by simpa using hb
   have hneg : ¬ ((ys.length : Int) < 0) := by omega
   by_cases h0 : ys.length * E.size e = 0
   ·have hcs0 : cs = [] := List.eq_nil_of_length_eq_zero (by omega)
    cases base <;> simp [Builtin.append_, run_underlying hu, run_size O hke, run_underlying hdX, asInt, asIntOf, hw, typeInfo, hi1, hb', hneg, hroom, h0, hcs0, storeCells]
   ·cases base <;> simp [Builtin.append_, run_underlying hu, run_size O hke, run_underlying hdX, asInt, asIntOf, hw, typeInfo, hi1, hb', hneg, hroom, h0, zeroValue, hi2, ← k3]
 ·intro hno old hold
  have hn1 : ¬ (len + ys.length ≤ cap) := by omega
  have hcapb := hb48 _ (nextcap_le (len + ys.length) cap hno)
  let newCap := (Question.appendCap (len + ys.length) cap e).cut (cx.w.tape cx.w.drawn (Question.appendCap (len + ys.length) cap e))
  have hnewCap : len + ys.length ≤ newCap := by simp only [newCap, Question.cut]; omega
  refine ⟨newCap, (Builtin.zeroCells z.cells (newCap - (len + ys.length))).toList, hnewCap, ?_, ?_⟩
  ·rw [zeroCells_eq]; simp [flat_len, ← hzl]
  ·have hold' := hold cx.w.drew fun _ _ => rfl
   have hs1 : cx.w.drew.heap.size = cx.w.heap.size := rfl
   have hq : (choose (Question.appendCap (len + ys.length) cap e)).run E.P cx.w = .ok newCap cx.w.drew := by rw [run_choose, hforced]; rfl
   have hov : ∀ p : Prop, ¬ ((9223372036854775807 : Int) < (len : Int) + (ys.length : Int) ∧ p) := fun p h => by omega
   have hov' : ¬ ((9223372036854775807 : Int) < (len : Int) + (ys.length : Int)) := by omega
   have hnc : (Question.appendCap (len + ys.length) cap e).cut (cx.w.tape cx.w.drawn (Question.appendCap (len + ys.length) cap e)) = newCap := rfl
   have harr : ∀ (a b : List Value) (c : Array Value), cx.w.drew.alloc (Obj.cells (a.toArray ++ (b.toArray ++ c)) e) = cx.w.drew.alloc (Obj.cells (a ++ (b ++ c.toList)).toArray e) := fun a b c =>
    congrArg (fun x => cx.w.drew.alloc (Obj.cells x e)) (by apply Array.ext'; simp)
   have harr0 : ∀ (a : List Value) (c : Array Value), cx.w.drew.alloc (Obj.cells (a.toArray ++ c) e) = cx.w.drew.alloc (Obj.cells (a ++ c.toList).toArray e) := fun a c =>
    congrArg (fun x => cx.w.drew.alloc (Obj.cells x e)) (by apply Array.ext'; simp)
   rcases hkey with ⟨rfl, hdX, k1, k2⟩ | ⟨rfl, hdX, k0, rfl, k3⟩
   ·have k3 := k2 cx.w.drew fun _ _ => rfl
    rcases hdX with hdX | hdX <;>
     simp [Builtin.append_, run_underlying hu, run_size O hke, run_underlying hdX, k1, hn1, typeInfo, hi1, hcapb, hold', k3, zeroValue, hi2, newRow, hov, hforced, hnc, harr]
   ·have hw : IntKind.i64.wrap (ys.length : Int) = ys.length := by
     simp only [IntKind.wrap, IntKind.bits, IntKind.signed]; simp; omega
    have hb : ¬ ((ys.length : Int) * (i.bytes : Int) > 2 ^ 48) := by
     have := hb48 ys.length (by omega)
     have e : ((ys.length : Int) * (i.bytes : Int)) = ((ys.length * i.bytes : Nat) : Int) := by push_cast; rfl
     rw [e]; omega
    have hb' : ¬ (281474976710656 < (ys.length : Int) * (i.bytes : Int)) := by simpa using hb
    have hneg : ¬ ((ys.length : Int) < 0) := by omega
    by_cases h0 : ys.length * E.size e = 0
    ·have hcs0 : cs = [] := List.eq_nil_of_length_eq_zero (by omega)
     simp [Builtin.append_, run_underlying hu, run_size O hke, run_underlying hdX, asInt, asIntOf, hw, typeInfo, hi1, hb', hneg, hn1, hcapb, hold', zeroValue, hi2, newRow, hov', hforced, hnc, h0, hcs0, harr0]
    ·simp [Builtin.append_, run_underlying hu, run_size O hke, run_underlying hdX, asInt, asIntOf, hw, typeInfo, hi1, hb', hneg, hn1, hcapb, hold', zeroValue, hi2, newRow, hov', hforced, hnc, h0, ← k3, harr]
end
section
variable {E : Env} {cx : Cx} {σ : Store} {nid : Nat}
theorem new_ok' (hn : Now E cx σ) {nid : Nat} (hb : ¬ cx.A nid) (htop : cx.top ≤ nid) {T el : TypeId} {xs : List PV} {ca : Array Value} {cs : List Value} {w : World} (hw : w.heap = cx.w.heap.push (.cells ca el)) (hos : w.os = cx.w.os)
  (htape : w.tape = cx.w.tape) (hout : w.output = cx.w.output) (hc : VR E cx T xs cs) (hwin : Win ca 0 cs) (hl : cs.length ≤ ca.size) {fz : Nat × Nat} :
  ∃ cx', cx'.w = w ∧ Now E cx' (Store.new σ nid (.cells T 0 xs)) ∧ Step cx cx' ∧ cx'.mu nid = some ⟨cx.w.heap.size, 0, 0, T, ca.size⟩ ∧ cx'.A nid ∧ ∀ b, cx'.A b → cx.A b ∨ b = nid := by
 obtain ⟨h1, h2⟩ := hn.alloc hb htop (m := ⟨cx.w.heap.size, 0, 0, T, ca.size⟩) (w := w) (by simp [hw]) (fun k hk => by rw [hw]; simp only [Array.getElem?_push, if_neg (Nat.ne_of_lt hk)]) hos htape hout (Nat.le_refl _) (by simp [hw])
  (blk := .cells T 0 xs) (fun ext => by
   refine ⟨rfl, rfl, ca, el, (0, 0), cs, by simp [Cx.add, hw], rfl, hc.ext ext, hwin, by simpa using hl, ?_⟩
   exact .inl rfl)
 exact ⟨_, rfl, h1, h2, by simp [Cx.add], .inr rfl, fun _ h => h⟩
theorem V_newref {c : Cx} {nid len cap : Nat} {m : MB} (hA : c.A nid) (hm : c.mu nid = some m) (hg : m.gen = 0) (hb : m.base = 0) (hc : len ≤ cap) (hfit : cap * E.size m.ty ≤ m.cells) :
  V E c (.ref nid 0 0 len) (.slice (some ⟨m.blk, 0, none⟩) len cap) :=
 V_one (.ref _ _ _ _ _ rfl hA (fun m' h => by omega) (fun m' h _ => by
  rw [hm] at h; simp only [Option.some.injEq] at h; subst h
  exact ⟨_, _, rfl, hc, .inr ⟨by simp [hb], by simpa [hb] using hfit⟩⟩)) (by simp)
theorem firstCells_zero {P : Program} {w : World} (size : Nat) (base : Option Addr) (cap : Nat) : (Builtin.firstCells size 0 (.slice base 0 cap)).run P w = .ok (([] : List Value).toArray) w := by
 cases base <;> simp [Builtin.firstCells, loadCells, loadCellsFrom]
theorem Y_append (O : E.OK) {o : Oper} {c : Call} {s x : Operand} {S X e : TypeId} {zeros : Bool} {fr : Fr} {sv xv v : PV} {ys : List PV} {σ' : Store}  (ho : o.op = .call c) (hc : c.callee = .builtin .append) (ha : c.args = #[s, x])
  (ht : c.argTypes = #[S, X]) (hs : Fr.eval fr s = some sv) (hx : Fr.eval fr x = some xv) (hS : E.td S = .slice e) (hkS : E.kn S = true) (hkX : E.kn X = true) (hX : if zeros then E.td X = .int .i64 else (E.td X = .slice e ∨ E.td X = .str))
  (hys : sApp E e xv σ zeros = some ys) (hf : ∀ y ∈ ys, fits E e y = true) (hpos : 0 < E.bytes e) (h : sAppend E e sv ys σ nid = some (v, σ')) : Yld E nid o fr σ v σ' := fun cx ρ hn he hnid htop => by
 have hsv := he s sv hs
 have hxv := he x xv hx
 have hrun : ∀ (u : Value) (w' : World), (Builtin.append_ #[S, X] o.type #[ρ s, ρ x]).run E.P cx.w = .ok u w' → (execOp ρ o).run E.P cx.w = .ok (.value u) w' := fun u w' hu => by
  rw [run_builtin ho hc, ha, ht]
  simp [builtin, hu]
 have hke : E.kn e = true := by have := O.td S hkS; rw [hS] at this; exact this.2.1
 unfold sAppend at h
 split at h
 ·obtain ⟨a, hval⟩ := hsv.nils_inv
  split at h
  ·simp only [Option.some.injEq, Prod.mk.injEq] at h
   obtain ⟨rfl, rfl⟩ := h
   have hys0 : (2 * (0 + ([] : List PV).length) + 1000) * 0 = 0 := by omega
   have htd := O.td S hkS
   rw [hS] at htd
   have hX' := O.td X hkX
   refine ⟨.value (.slice a 0 0), .slice a 0 0, cx.w, cx, ?_, .inl rfl, rfl, hn, V_one (.nils _) (by simp), Step.refl cx, fun _ h => .inl h⟩
   apply hrun
   rw [hval]
   cases zeros with
   | false =>
    simp only [sApp, Bool.false_eq_true, if_false] at hys hX
    obtain ⟨cs, h1, h2⟩ := list_ok O hn hxv hys hf
    have hcs0 : cs = [] := by cases h1; rfl
    subst hcs0
    obtain ⟨h3, h4⟩ := h2 cx.w fun _ _ => rfl
    simp only [List.length_nil] at h3 h4
    rcases hX with hX | hX <;> rw [hX] at hX'
    ·cases a <;> simp [Builtin.append_, run_underlying htd.1, run_size O hke, run_underlying hX'.1, h3, h4, storeCells]
    ·cases a <;> simp [Builtin.append_, run_underlying htd.1, run_size O hke, run_underlying (show E.P.underlying X = some .string from hX'), h3, h4, storeCells]
   | true =>
    simp only [sApp, if_true] at hys hX
    rw [hX] at hX'
    split at hys
    ·rename_i n
     split at hys
     ·rename_i hcn
      simp only [Option.some.injEq] at hys
      have hn0 : n = 0 := by
       have := congrArg List.length hys
       simp at this; omega
      subst hn0
      obtain ⟨i, hi1, _⟩ := O.info e hke
      have hw : IntKind.i64.wrap 0 = 0 := by decide
      cases a <;> simp [Builtin.append_, run_underlying htd.1, run_size O hke, run_underlying (show E.P.underlying X = some (.int .i64) from hX'), V.int_inv hxv, asInt, asIntOf, hw, typeInfo, hi1, storeCells]
     ·simp at hys
    ·simp at hys
  ·rename_i hne
   split at h
   ·rename_i hb
    simp only [Option.some.injEq, Prod.mk.injEq] at h
    obtain ⟨rfl, rfl⟩ := h
    have hyl : 0 < ys.length := by
     rcases Nat.eq_zero_or_pos ys.length with h0 | h0
     ·exact absurd (List.eq_nil_of_length_eq_zero h0) (by simpa using hne)
     ·exact h0
    have hlen : ys.length < 4611686018427387904 := by
     have := Nat.le_trans (Nat.le_mul_of_pos_right _ hpos) hb; omega
    obtain ⟨cs, hcs, _, hB⟩ := run_append (ty := o.type) O hn hS hkS hkX hX hxv hys hf a 0 0 (by simpa using hb) (by omega)
    obtain ⟨newCap, rest, h1, h2, h3⟩ := hB (by omega) [] fun w _ => firstCells_zero _ _ _
    have hcl := VR.length O.toFine hcs
    obtain ⟨cx', k1, k2, k3, k4, k5, k6⟩ := new_ok' (w := cx.w.drew.alloc (.cells (([] : List Value) ++ cs ++ rest).toArray e)) hn hnid htop (el := e) (ca := (([] : List Value) ++ cs ++ rest).toArray) rfl rfl rfl rfl hcs
     (fun j v hv => by have hj := getElem?_lt hv; simp [List.getElem?_append_left hj, hv]) (by simp) (fz := (0, 0))
    refine ⟨.value (.slice (some ⟨cx.w.heap.size, 0, none⟩) ys.length newCap), _, _, cx', hrun _ _ ?_, .inl rfl, k1, k2, V_newref k5 k4 rfl rfl (by omega) ?_, k3, k6⟩
    ·rw [hval]; simpa using h3
    ·simp only [List.nil_append, List.size_toArray, List.length_append, hcl, h2]
     have : newCap = ys.length + (newCap - (0 + ys.length)) := by omega
     conv => lhs; rw [this]
     rw [Nat.add_mul]; omega
   ·simp at h
 ·rename_i b g off len
  split at h
  ·rename_i ty g' xs hb
   split at h
   ·rename_i hcnd
    obtain ⟨rfl, rfl, hl, hbd⟩ := hcnd
    simp only [Option.some.injEq, Prod.mk.injEq] at h
    obtain ⟨rfl, rfl⟩ := h
    obtain ⟨m, ca, el, fz, cs00, j1, j2, j3, j4, j5, j60, j70, j80, j9⟩ := hn.blk hb
    obtain ⟨cs0, j6, j7, j8⟩ : ∃ cs0, VCs E cx (List.replicate (xs.take (off + len)).length ty) (xs.take (off + len)) cs0 ∧ Win ca m.base cs0 ∧ m.base + cs0.length ≤ ca.size := by
     have v0 : VR E cx ty xs cs00 := j60
     refine ⟨_, v0.take O.toFine (off + len), fun j v hj => ?_, ?_⟩
     ·rw [List.getElem?_take] at hj
      split at hj
      ·exact j70 j v hj
      ·simp at hj
     ·simp only [List.length_take]; omega
    have hl : off + len = (xs.take (off + len)).length := by simp; omega
    clear j60 j70 j80 hb
    generalize xs.take (off + len) = xs at hl j6 ⊢
    obtain ⟨hA, hle, hr⟩ := hsv.ref_inv
    obtain ⟨a, cap, hval, hcap, hh⟩ := hr m j1 j2
    have hlen : len + ys.length < 4611686018427387904 := by
     have := Nat.le_trans (Nat.le_mul_of_pos_right _ hpos) hbd; omega
    obtain ⟨cs, hcs, hAr, hB⟩ := run_append (ty := o.type) O hn hS hkS hkX hX hxv hys hf a len cap hbd hlen
    have hcl := VR.length O.toFine hcs
    have v0 : VR E cx ty xs cs0 := j6
    have v1 := v0.drop O.toFine off
    have hl0 := VR.length O.toFine v0
    have hl1 := VR.length O.toFine v1
    have hblt : m.blk < cx.w.heap.size := by obtain ⟨_, _, h, _⟩ := hn.dom b m j1; exact h
    have hxl : (xs.drop off).length = len := by simp; omega
    rw [hxl] at hl1
    by_cases hroom : len + ys.length ≤ cap
    ·have hrun' := hAr hroom
     by_cases hcap0 : cap = 0
     ·-- nothing there, nothing appended
      have hl0 : len = 0 := by omega
      have hy0 : ys.length = 0 := by omega
      have hcs0 : cs = [] := List.eq_nil_of_length_eq_zero (by rw [hcl, hy0]; simp)
      have hys0 : ys = [] := List.eq_nil_of_length_eq_zero hy0
      have hxs0 : xs.drop off = [] := List.eq_nil_of_length_eq_zero (by omega)
      obtain ⟨hn', hs'⟩ := hn.change (m' := { m with gen := g' + 1, base := m.base + off * E.size ty }) j1 (w := cx.w) (Nat.le_refl _) (fun _ _ _ => rfl) rfl rfl rfl (by simp only; omega) (fun h => by simp only at h; omega) (.inl rfl) hblt
       (blk := .cells ty (g' + 1) (xs.drop off ++ ys)) (fun ext => by
        refine ⟨rfl, j3, ca, el, fz, [], by simpa [Cx.at] using j4, j5, ?_, fun j v h => by simp at h, ?_, j9⟩
        ·rw [hxs0, hys0]; exact VCs.nil
        ·have := Nat.mul_le_mul_right (E.size ty) (show off ≤ xs.length by omega)
         simp only [List.length_nil, Nat.add_zero]; omega)
      refine ⟨.value (.slice a (len + ys.length) cap), _, cx.w, cx.at cx.w b { m with gen := g' + 1, base := m.base + off * E.size ty }, hrun _ _ ?_, .inl rfl, rfl, hn', V_one (.ref _ _ _ _ _ rfl hA (fun m' hm' => ?_) (fun m' hm' _ => ⟨a, cap, rfl, hroom, .inl hcap0⟩)) (by simp), hs', fun _ h => .inl h⟩
      ·rw [hval, hrun', hcs0]; cases a <;> simp [storeCells]
      ·simp only [Cx.at, if_true, Option.some.injEq] at hm'; subst hm'; simp
     ·rcases hh with h | ⟨rfl, hfit⟩
      ·exact absurd h hcap0
      ·rw [j3] at hfit
       have hfit2 : m.base + off * E.size ty + len * E.size ty + cs.length ≤ ca.size := by
        have := Nat.mul_le_mul_right (E.size ty) (show off + (len + ys.length) ≤ off + cap by omega)
        rw [Nat.add_mul, Nat.add_mul] at this
        omega
       have hst := run_storeCells_free E.P m.blk (m.base + off * E.size ty + len * E.size ty) el fz cs 0 ca cx.w j4 j9 (by omega) (VCs.one hcs)
       simp only [Nat.add_zero] at hst
       have hS' : (splice ca.toList (m.base + off * E.size ty + len * E.size ty) cs).toArray.size = ca.size := by
        simp only [List.size_toArray]; rw [splice_length (by simpa using hfit2)]; simp
       have hwl : LW ca.toList m.base cs0 := fun j v h' => by simpa using j7 j v h'
       obtain ⟨hn', hs'⟩ := hn.change (m' := { m with gen := g' + 1, base := m.base + off * E.size ty }) j1 (w := cx.w.setRow m.blk (splice ca.toList (m.base + off * E.size ty + len * E.size ty) cs).toArray) (by simp) (fun k hk _ => setRow_other _ _ _ _ hk) rfl rfl rfl
        (by simp only; omega) (fun h => by simp only at h; omega) (.inl rfl) (by simpa using hblt) (blk := .cells ty (g' + 1) (xs.drop off ++ ys)) (fun ext => by
         refine ⟨rfl, j3, _, el, fz, cs0.drop (off * E.size ty) ++ cs, setRow_heap _ _ _ _ _ _ j4, hS'.trans j5, (v1.app hcs).ext ext, ?_, ?_, ?_⟩
         ·intro j v hv
          simp only [List.getElem?_toArray, splice]
          by_cases hj : j < (cs0.drop (off * E.size ty)).length
          ·rw [List.getElem?_append_left hj, List.getElem?_drop] at hv
           have := hwl _ _ hv
           rw [List.getElem?_append_left (by simp; omega), List.getElem?_append_left (by simp; omega), List.getElem?_take_of_lt (by omega)]
           rw [← Nat.add_assoc] at this; exact this
          ·rw [List.getElem?_append_right (by omega)] at hv
           have hj2 := getElem?_lt hv
           have hbl : (List.take (m.base + off * E.size ty + len * E.size ty) ca.toList).length = m.base + off * E.size ty + len * E.size ty := by simp; omega
           rw [List.getElem?_append_left (by simp; omega), List.getElem?_append_right (by omega), hbl]
           rw [show m.base + off * E.size ty + j - (m.base + off * E.size ty + len * E.size ty) = j - (cs0.drop (off * E.size ty)).length by omega]
           exact hv
         ·rw [hS']; simp only [List.length_append]; omega
         ·unfold Free at *; rw [hS']; exact j9)
       refine ⟨.value (.slice (some ⟨m.blk, m.base + off * E.size m.ty, none⟩) (len + ys.length) cap), _, _, _, hrun _ _ ?_, .inl rfl, rfl, hn', V_one (.ref _ _ _ _ _ rfl hA (fun m' hm' => ?_) (fun m' hm' _ => ?_)) (by simp), hs', fun _ h => .inl h⟩
       ·rw [hval, hrun']
        simp only [j3, add_lit', hst, Result.andThen_ok]; rfl
       ·simp only [Cx.at, if_true, Option.some.injEq] at hm'; subst hm'; simp
       ·simp only [Cx.at, if_true, Option.some.injEq] at hm'; subst hm'
        refine ⟨_, _, rfl, hroom, .inr ⟨by simp [j3], ?_⟩⟩
        simp only [j3, Nat.zero_add]
        rw [Nat.add_mul] at hfit; omega
    ·have hold : ∀ w, (∀ k, k < cx.w.heap.size → w.heap[k]? = cx.w.heap[k]?) → (Builtin.firstCells (E.size ty) len (.slice a len cap)).run E.P w = .ok (cs0.drop (off * E.size ty)).toArray w := fun w hw => by
      rcases hh with h | ⟨rfl, hfit⟩
      ·have hl0 : len = 0 := by omega
       subst hl0
       have : cs0.drop (off * E.size ty) = [] := List.eq_nil_of_length_eq_zero (by rw [hl1]; simp)
       rw [this]; exact firstCells_zero _ _ _
      ·simp only [Builtin.firstCells]
       rw [j3]
       exact loadCells_win ((hw _ hblt).trans j4) (LW.win j7 (LW_drop cs0 _)) hl1
     obtain ⟨newCap, rest, h1, h2, h3⟩ := hB (by omega) _ hold
     have hsz : cx.w.heap.size < (cx.w.drew.alloc (.cells (cs0.drop (off * E.size ty) ++ cs ++ rest).toArray ty)).heap.size := by simp
     obtain ⟨hn', hs'⟩ := hn.change (m' := ⟨cx.w.heap.size, 0, g' + 1, ty, (cs0.drop (off * E.size ty) ++ cs ++ rest).length⟩) j1 (w := cx.w.drew.alloc (.cells (cs0.drop (off * E.size ty) ++ cs ++ rest).toArray ty)) (by simp)
      (fun k hk hlt => heap_alloc_old' cx.w.drew _ k hlt) rfl rfl rfl (by simp only; omega) (fun h => by simp only at h; omega) (.inr (Nat.le_refl _)) hsz (blk := .cells ty (g' + 1) (xs.drop off ++ ys)) (fun ext => by
       refine ⟨rfl, rfl, _, ty, (0, 0), cs0.drop (off * E.size ty) ++ cs, heap_alloc_new' cx.w.drew _, by simp, (v1.app hcs).ext ext, ?_, by simp, .inl rfl⟩
       intro j v hv
       have hj := getElem?_lt hv
       simp only [Nat.zero_add, List.getElem?_toArray]
       rw [List.getElem?_append_left hj]; exact hv)
     refine ⟨.value (.slice (some ⟨cx.w.heap.size, 0, none⟩) (len + ys.length) newCap), _, _, cx.at (cx.w.drew.alloc (.cells (cs0.drop (off * E.size ty) ++ cs ++ rest).toArray ty)) b ⟨cx.w.heap.size, 0, g' + 1, ty, (cs0.drop (off * E.size ty) ++ cs ++ rest).length⟩, hrun _ _ ?_, .inl rfl, rfl, hn', V_one (.ref _ _ _ _ _ rfl hA (fun m' hm' => ?_) (fun m' hm' _ => ?_)) (by simp), hs', fun _ h => .inl h⟩
     ·rw [hval, h3]; rfl
     ·simp only [Cx.at, if_true, Option.some.injEq] at hm'; subst hm'; simp
     ·simp only [Cx.at, if_true, Option.some.injEq] at hm'; subst hm'
      refine ⟨_, _, rfl, h1, .inr ⟨by simp, ?_⟩⟩
      simp only [Nat.zero_add, List.length_append, hcl, h2, hl1]
      have : newCap = len + ys.length + (newCap - (len + ys.length)) := by omega
      conv => lhs; rw [this]
      rw [Nat.add_mul, Nat.add_mul]; omega
   ·simp at h
  ·simp at h
 ·simp at h
end
section
variable {E : Env} {cx : Cx} {σ : Store} {nid : Nat}
inductive PL (E : Env) (c : Cx) : List (Nat × PV) → List (Nat × Value) → Prop
 | nil : PL E c [] []
 | cons {k : Nat} {x : PV} {v : Value} {ps : List (Nat × PV)} {vs : List (Nat × Value)} (h : V E c x v) (hs : PL E c ps vs) : PL E c ((k, x) :: ps) ((k, v) :: vs)
def sFill (E : Env) (lay : List TypeId) : List PV → List (Nat × PV) → Option (List PV)
 | fs, [] => some fs
 | fs, (k, v) :: ps => match lay[k]? with
  | some T => if fits E T v then sFill E lay (fs.set k v) ps else none
  | none => none
theorem foldl_splice : ∀ (ds cs : List Value) (o j : Nat), o + j + ds.length ≤ cs.length →
  ((ds.zipIdx j).foldl (fun (a : Array Value) (x : Value × Nat) => a.setIfInBounds (o + x.2) x.1) cs.toArray) = (splice cs (o + j) ds).toArray
 | [], cs, o, j, h => by simp [splice]
 | d :: ds, cs, o, j, h => by
  simp only [List.zipIdx_cons, List.foldl_cons, List.length_cons] at h ⊢
  have e : (cs.toArray.setIfInBounds (o + j) d) = (cs.set (o + j) d).toArray := by simp
  rw [e, foldl_splice ds _ o (j + 1) (by simp; omega)]
  congr 1
  simp only [splice, List.length_cons]
  have := list_seg_step cs (o + j) d ds (by omega)
  simpa [Nat.add_assoc] using this
theorem fill_ok (F : E.Fine) {c : Cx} {lay : List TypeId} {place : Nat → Option (Nat × Nat)} (hp : ∀ k T, lay[k]? = some T → place k = some (((lay.take k).map E.size).sum, E.size T)) :
  ∀ (ps : List (Nat × PV)) (vs : List (Nat × Value)) (fs fs' : List PV) (cs : List Value), VCs E c lay fs cs → PL E c ps vs → sFill E lay fs ps = some fs' →
   ∃ cs', Instr.fill place cs.toArray vs = some cs'.toArray ∧ VCs E c lay fs' cs'
 | [], vs, fs, fs', cs, h, hv, hs => by
  cases hv
  simp only [sFill, Option.some.injEq] at hs; subst hs
  exact ⟨cs, rfl, h⟩
 | (k, x) :: ps, vs, fs, fs', cs, h, hv, hs => by
  cases hv with
  | cons hx h2 =>
   rename_i v vs
   simp only [sFill] at hs
   split at hs
   ·rename_i T hT
    split at hs
    ·rename_i hf
     have hc := VC_of_V hx hf
     have l := hc.len F _ hf
     have fl := h.fit_len F hT
     have := h.set F k T x _ hT hf hc
     obtain ⟨cs', i1, i2⟩ := fill_ok F hp ps vs _ fs' _ this h2 hs
     refine ⟨cs', ?_, i2⟩
     simp only [Instr.fill, hp k T hT]
     have hsz : v.cells.size = E.size T := by simpa using l
     have hcond : (decide (v.cells.size ≠ E.size T) || decide (((lay.take k).map E.size).sum + v.cells.size > cs.toArray.size)) = false := by
      simp only [hsz, ne_eq, not_true_eq_false, decide_false, Bool.false_or, decide_eq_false_iff_not, List.size_toArray]; omega
     simp only [hcond, Bool.false_eq_true, if_false]
     rw [← i1]
     congr 1
     have := foldl_splice v.cells.toList cs (((lay.take k).map E.size).sum) 0 (by simp only [Nat.add_zero]; omega)
     simp only [Nat.add_zero] at this
     rw [← this, ← Array.foldl_toList]
     simp
    ·simp at hs
   ·simp at hs
def evalParts (fr : Fr) (ps : List (Nat × Operand)) : Option (List (Nat × PV)) := ps.mapM fun p => (Fr.eval fr p.2).map fun v => (p.1, v)
theorem evalParts_ok {c : Cx} {fr : Fr} {ρ : Operand → Value} (he : Ev E c fr ρ) : ∀ (ps : List (Nat × Operand)) (vs : List (Nat × PV)), evalParts fr ps = some vs →
  PL E c vs (ps.map fun p => (p.1, ρ p.2))
 | [], vs, h => by simp [evalParts] at h; subst h; exact .nil
 | p :: ps, vs, h => by
  simp only [evalParts, List.mapM_cons] at h
  cases hx : Fr.eval fr p.2 with
  | none => simp [hx] at h
  | some v =>
   cases hs : ps.mapM fun p => (Fr.eval fr p.2).map fun v => (p.1, v) with
   | none => simp [hx, hs] at h
   | some us =>
    simp [hx, hs] at h; subst h
    exact .cons (he _ _ hx) (evalParts_ok he ps us hs)
theorem mapM_places (O : E.OK) {P : Program} {w : World} {lay : List TypeId} : ∀ (fs : List Field), (∀ f ∈ fs, E.kn f.type = true) →
  ((fs.mapM fun f => (do pure (f.offset, ← sizeOf f.type) : Sem (Nat × Nat))).run E.P w) = .ok (fs.map fun f => (f.offset, E.size f.type)) w
 | [], _ => by simp
 | f :: fs, h => by
  have ih := mapM_places (P := P) (lay := lay) (w := w) O fs fun g hg => h g (by simp [hg])
  simp only [List.mapM_cons, Sem.run_bind, run_size O (h f (by simp)), Result.andThen_ok, Sem.run_pure, ih, List.map_cons]
def sBuild (E : Env) (T : TypeId) (ps : List (Nat × PV)) : Option PV :=
 match E.zero T with
 | .agg t fs => if t = T then (sFill E (E.lay T) fs ps).map (.agg T) else none
 | _ => none
theorem Y_build (O : E.OK) {o : Oper} {T : TypeId} {parts : Array (Nat × Operand)} {fr : Fr} {ps : List (Nat × PV)} {v : PV} (ho : o.op = .build T parts) (hk : E.kn T = true) (hT : E.td T = .st ∨ ∃ n e, E.td T = .arr n e)
  (hp : evalParts fr parts.toList = some ps) (h : sBuild E T ps = some v) : Yld E nid o fr σ v σ := Yld_pure fun cx ρ hn he => by
 unfold sBuild at h
 split at h
 ·rename_i t fs hz
  split at h
  ·rename_i e; subst e
   obtain ⟨fs', hfs, rfl⟩ := Option.map_eq_some_iff.1 h
   obtain ⟨i, z, hi1, hi2, hi3, hi4⟩ := O.zero t hk
   obtain ⟨hzv, hzf⟩ := hi4 cx
   rw [hz] at hzv
   cases hzv with
   | agg _ _ _ hzv =>
    have hparts := evalParts_ok he parts.toList ps hp
    have htd := O.td t hk
    have zr : (zeroValue t).run E.P cx.w = .ok z cx.w := by simp [zeroValue, typeInfo, hi1, hi2]
    rcases hT with hT | ⟨n, e, hT⟩
    ·rw [hT] at htd
     obtain ⟨fields, h1, h2, h3⟩ := htd
     have hkn : ∀ f ∈ fields.toList, E.kn f.type = true := fun f hf => by
      obtain ⟨k, hk'⟩ := List.getElem?_of_mem hf
      exact (h3 k f (by simpa using hk')).2.2.1
     have hpl : (fields.mapM fun f => (do pure (f.offset, ← sizeOf f.type) : Sem (Nat × Nat))).run E.P cx.w = .ok (fields.map fun f => (f.offset, E.size f.type)) cx.w := by
      rw [← Array.toArray_toList (xs := fields)]
      rw [List.mapM_toArray]
      simp only [Sem.run_map, mapM_places (P := E.P) (lay := []) O fields.toList hkn, Result.andThen_ok, List.map_toArray]
     obtain ⟨cs', k1, k2⟩ := fill_ok (place := fun k => (fields.map fun f => (f.offset, E.size f.type))[k]?) O.toFine (fun k T hT => by
       have hlt := getElem?_lt hT
       have hf : fields[k]? = some fields[k] := Array.getElem?_eq_getElem (by omega)
       obtain ⟨j1, j2, j3, j4⟩ := h3 k _ hf
       rw [hT] at j1; simp only [Option.some.injEq] at j1
       simp [hf, j2, ← j1, offOf]) ps _ fs fs' _ hzv hparts hfs
     refine ⟨.agg cs'.toArray, ?_, V_agg (.agg _ _ _ k2)⟩
     have hparts' : (parts.map fun x => match x with | (i, x) => (i, ρ x)).toList = parts.toList.map fun p => (p.1, ρ p.2) := by simp
     have hcells : z.cells = z.cells.toList.toArray := by simp
     simp only [execOp, ho, Sem.run_bind, Instr.build, zr, Result.andThen_ok, run_underlying h1, hpl, hparts']
     rw [hcells, k1]
     simp
    ·rw [hT] at htd
     obtain ⟨h1, h2, h3, h4⟩ := htd
     obtain ⟨cs', k1, k2⟩ := fill_ok (place := fun k => some (k * E.size e, E.size e)) O.toFine (fun k T hT => by
       have hlt := getElem?_lt hT
       rw [h2] at hT hlt
       simp only [List.length_replicate] at hlt
       simp only [List.getElem?_replicate, hlt, if_true, Option.some.injEq] at hT
       subst hT
       rw [h2, rep_off E e n k (by omega)]) ps _ fs fs' _ hzv hparts hfs
     refine ⟨.agg cs'.toArray, ?_, V_agg (.agg _ _ _ k2)⟩
     have hparts' : (parts.map fun x => match x with | (i, x) => (i, ρ x)).toList = parts.toList.map fun p => (p.1, ρ p.2) := by simp
     have hcells : z.cells = z.cells.toList.toArray := by simp
     simp only [execOp, ho, Sem.run_bind, Instr.build, zr, Result.andThen_ok, run_underlying h1, run_size O h3, hparts']
     rw [hcells, k1]
     simp
  ·simp at h
 ·simp at h
def sBuildSlice (E : Env) (e : TypeId) (len : Nat) (ps : List (Nat × PV)) : Option (List PV) := sFill E (List.replicate len e) (List.replicate len (E.zero e)) ps
theorem sFill_length : ∀ (ps : List (Nat × PV)) (lay : List TypeId) (fs fs' : List PV), sFill E lay fs ps = some fs' → fs'.length = fs.length
 | [], lay, fs, fs', h => by simp [sFill] at h; subst h; rfl
 | (k, v) :: ps, lay, fs, fs', h => by
  simp only [sFill] at h
  split at h
  ·split at h
   ·have := sFill_length ps lay _ fs' h; simpa using this
   ·simp at h
  ·simp at h
theorem Y_buildSlice (O : E.OK) {o : Oper} {T e : TypeId} {len : Nat} {parts : Array (Nat × Operand)} {fr : Fr} {ps : List (Nat × PV)} {xs : List PV}  (ho : o.op = .buildSlice T len parts) (hk : E.kn T = true) (hT : E.td T = .slice e)
  (hsz : len * E.size e ≤ 16777216) (hp : evalParts fr parts.toList = some ps) (h : sBuildSlice E e len ps = some xs) : Yld E nid o fr σ (.ref nid 0 0 len) (Store.new σ nid (.cells e 0 xs)) := fun cx ρ hn he hnid htop => by
 have htd := O.td T hk
 rw [hT] at htd
 obtain ⟨hu, hke, hpos⟩ := htd
 obtain ⟨i, z, hi1, hi2, hi3, hi4⟩ := O.zero e hke
 obtain ⟨hzv, hzf⟩ := hi4 cx
 have hzl := hzv.len O.toFine _ hzf
 have hzs : z.cells.size = E.size e := by simpa using hzl
 have hparts := evalParts_ok he parts.toList ps hp
 have zr : (zeroValue e).run E.P cx.w = .ok z cx.w := by simp [zeroValue, typeInfo, hi1, hi2]
 have hv0 := VR_rep E cx e _ _ hzv hzf len
 have hv0' : VCs E cx (List.replicate len e) (List.replicate len (E.zero e)) (List.replicate len z.cells.toList).flatten := by simpa [VR] using hv0
 obtain ⟨cs', k1, k2⟩ := fill_ok (place := fun k => some (k * E.size e, E.size e)) O.toFine (fun k U hU => by
   have hlt := getElem?_lt hU
   simp only [List.length_replicate] at hlt
   simp only [List.getElem?_replicate, hlt, if_true, Option.some.injEq] at hU
   subst hU
   rw [rep_off E e len k (by omega)]) ps _ _ xs _ hv0' hparts h
 have hxl : xs.length = len := by rw [sFill_length ps _ _ xs h]; simp
 have hparts' : (parts.map fun x => match x with | (i, x) => (i, ρ x)).toList = parts.toList.map fun p => (p.1, ρ p.2) := by simp
 have k2' : VR E cx e xs cs' := by rw [VR, hxl]; exact k2
 have hcl := VR.length O.toFine k2'
 obtain ⟨cx', j1, j2, j3, j4, j5, j6⟩ := new_ok' (w := cx.w.alloc (.cells cs'.toArray e)) hn hnid htop (el := e) (ca := cs'.toArray) rfl rfl rfl rfl k2' (Win_self cs') (by simp) (fz := (0, 0))
 refine ⟨.value (.slice (some ⟨cx.w.heap.size, 0, none⟩) len len), _, _, cx', ?_, .inl rfl, j1, j2, V_newref j5 j4 rfl rfl (Nat.le_refl _) (by simp [hcl, hxl]), j3, j6⟩
 have h24 : ¬ (len * E.size e > 2 ^ 24) := by
  have : (2 : Nat) ^ 24 = 16777216 := by decide
  omega
 have hz0 : Builtin.zeroCells z.cells len = ((List.replicate len z.cells.toList).flatten).toArray := zeroCells_eq _ _
 simp only [Builtin.zeroCells, hzs] at hz0
 simp only [execOp, ho, Sem.run_bind, Instr.buildSlice, run_underlying hu, Result.andThen_ok, run_size O hke, h24, if_false, Sem.run_pure, hparts']
 by_cases h0 : len * E.size e = 0
 ·have e0 : (List.replicate len z.cells.toList).flatten = [] := List.eq_nil_of_length_eq_zero (by rw [flat_len, hzl]; exact h0)
  rw [e0] at k1
  have e2 : (Array.map (fun x => (#[] : Array Value)[x % (#[] : Array Value).size]!) (Array.range 0)) = ([] : List Value).toArray := by simp
  simp only [h0, if_true, pure_bind]
  rw [e2, k1]
  simp [newRow]
 ·simp only [h0, if_false, Sem.run_bind, zr, Result.andThen_ok, Sem.run_pure, hzs]
  rw [hz0, k1]
  simp [newRow]
theorem Y_makeSlice (O : E.OK) {o : Oper} {T e : TypeId} {l c : Operand} {fr : Fr} {k k' : IntKind} {n m : Int}  (ho : o.op = .makeSlice T l c) (hk : E.kn T = true) (hT : E.td T = .slice e)
  (hl : Fr.eval fr l = some (.int k n)) (hc : Fr.eval fr c = some (.int k' m)) (h0 : 0 ≤ n) (h1 : n ≤ m) (h2 : m ≤ 16777216) (h3 : E.bytes e ≤ 16777216) : Yld E nid o fr σ (.ref nid 0 0 n.toNat) (Store.new σ nid (.cells e 0 (List.replicate n.toNat (E.zero e)))) := fun cx ρ hn he hnid htop => by
 have htd := O.td T hk
 rw [hT] at htd
 obtain ⟨hu, hke, hpos⟩ := htd
 obtain ⟨i, z, hi1, hi2, hi3, hi4⟩ := O.zero e hke
 obtain ⟨i', hj1, hj2, hj3⟩ := O.info e hke
 rw [hi1] at hj1; simp only [Option.some.injEq] at hj1; subst hj1
 obtain ⟨hzv, hzf⟩ := hi4 cx
 have hzl := hzv.len O.toFine _ hzf
 have hzs : z.cells.size = E.size e := by simpa using hzl
 have hv0 := VR_rep E cx e _ _ hzv hzf n.toNat
 have hcl := VR.length O.toFine hv0
 obtain ⟨cx', j1, j2, j3, j4, j5, j6⟩ := new_ok' (w := cx.w.alloc (.cells (Builtin.zeroCells z.cells m.toNat) e)) hn hnid htop (el := e) (ca := Builtin.zeroCells z.cells m.toNat) rfl rfl rfl rfl hv0
  (fun j v hv => by
   rw [zeroCells_eq]
   have : (List.replicate m.toNat z.cells.toList).flatten = (List.replicate n.toNat z.cells.toList).flatten ++ (List.replicate (m.toNat - n.toNat) z.cells.toList).flatten := by
    rw [← List.flatten_append, List.replicate_append_replicate]; congr 2; omega
   have hj := getElem?_lt hv
   simp only [Nat.zero_add, List.getElem?_toArray, this]
   rw [List.getElem?_append_left hj]; exact hv)
  (by rw [zeroCells_eq, flat_len]; simp only [List.size_toArray, flat_len]; exact Nat.mul_le_mul_right _ (by omega)) (fz := (0, 0))
 refine ⟨.value (.slice (some ⟨cx.w.heap.size, 0, none⟩) n.toNat m.toNat), _, _, cx', ?_, .inl rfl, j1, j2, V_newref j5 j4 rfl rfl (by omega) ?_, j3, j6⟩
 ·have w1 : IntKind.i64.wrap n = n := by simp only [IntKind.wrap, IntKind.bits, IntKind.signed]; simp; omega
  have w2 : IntKind.i64.wrap m = m := by simp only [IntKind.wrap, IntKind.bits, IntKind.signed]; simp; omega
  have hb : ¬ (281474976710656 < (i.bytes : Int) * m) := by
   rw [hj3]
   have a1 : (E.bytes e : Int) * m ≤ 16777216 * m := Int.mul_le_mul_of_nonneg_right (by omega) (by omega)
   omega
  have hm0 : ¬ m < 0 := by omega
  have hn0 : ¬ n < 0 := by omega
  have hnm : ¬ m < n := by omega
  simp only [execOp, ho, V.int_inv (he l _ hl), V.int_inv (he c _ hc)]
  simp [Instr.makeSlice, run_underlying hu, asInt, asIntOf, typeInfo, hi1, w1, w2, hb, hm0, hn0, hnm, run_size O hke]
  by_cases hz : m.toNat * E.size e = 0
  ·have hm : m.toNat = 0 := by
    rcases Nat.mul_eq_zero.1 hz with h | h <;> omega
   have hr : Array.range 0 = #[] := rfl
   simp [hm, newRow, Builtin.zeroCells, hr]
  ·simp [hz, zeroValue, typeInfo, hi1, hi2, newRow, Builtin.zeroCells, hzs]
 ·simp only [zeroCells_eq, List.size_toArray, flat_len, hzl]; omega
theorem Y_makeInterface (O : E.OK) {o : Oper} {T : TypeId} {x : Operand} {fr : Fr} {xv : PV} (ho : o.op = .makeInterface T x) (hk : E.kn T = true) (hT : E.td T ≠ .ifc) (hT2 : E.td T ≠ .other) (hx : Fr.eval fr x = some xv) (hne : fits E T xv = true) : Yld E nid o fr σ (.iface T xv) σ := Yld_pure fun cx ρ hn he => by
 have htd := O.td T hk
 have hv := he x xv hx
 have hrun : (execOp ρ o).run E.P cx.w = .ok (.value (.iface T (ρ x))) cx.w := by
  simp only [execOp, ho, Sem.run_bind, Instr.makeInterface]
  cases hd : E.td T with
  | ifc => exact absurd hd hT
  | other => exact absurd hd hT2
  | st => rw [hd] at htd; obtain ⟨f, h1, _⟩ := htd; simp [run_underlying h1]
  | bool => rw [hd] at htd; simp [run_underlying (show E.P.underlying T = _ from htd)]
  | int k => rw [hd] at htd; simp [run_underlying (show E.P.underlying T = _ from htd)]
  | str => rw [hd] at htd; simp [run_underlying (show E.P.underlying T = _ from htd)]
  | ptr e => rw [hd] at htd; simp [run_underlying (show E.P.underlying T = _ from htd)]
  | slice e => rw [hd] at htd; simp [run_underlying htd.1]
  | arr n e => rw [hd] at htd; simp [run_underlying htd.1]
  | map k e => rw [hd] at htd; simp [run_underlying htd.1]
  | fn => rw [hd] at htd; obtain ⟨ps, rs, vv, h1⟩ := htd; simp [run_underlying h1]
 refine ⟨_, hrun, ?_⟩
 generalize ρ x = r at hv ⊢
 cases hv with
 | undef hs => simp [fits] at hne
 | one h1 hn' h hs => exact V_one (.ifaceS _ _ _ h1 h) (by simp)
 | agg h hs => exact V_one (.ifaceA _ _ _ _ h) (by simp)
 | tup h hs => simp [fits] at hne
def bytesOf : List PV → Option (List UInt8)
 | [] => some []
 | .int .u8 n :: xs => match bytesOf xs with
  | some l => if 0 ≤ n ∧ n < 256 then some (UInt8.ofNat n.toNat :: l) else none
  | none => none
 | _ :: _ => none
theorem bytesOf_cells {c : Cx} {e : TypeId} : ∀ {xs : List PV} {l : List UInt8} {cs : List Value}, bytesOf xs = some l → VR E c e xs cs → cs = l.map fun b => .int .u8 b.toNat
 | [], l, cs, h, hv => by
  simp [bytesOf] at h; subst h
  cases hv; rfl
 | x :: xs, l, cs, h, hv => by
  obtain ⟨ds, es, rfl, hf, hx, hs⟩ := hv.uncons
  cases x <;> first | (simp [bytesOf] at h; done) | skip
  rename_i k n
  cases k <;> first | (simp [bytesOf] at h; done) | skip
  simp only [bytesOf] at h
  split at h
  ·rename_i l' hl'
   split at h
   ·rename_i hn
    simp only [Option.some.injEq] at h; subst h
    cases hx with
    | int _ _ =>
     have := bytesOf_cells hl' hs
     subst this
     have e : ((UInt8.ofNat n.toNat).toNat : Int) = n := by
      simp only [UInt8.toNat_ofNat']; omega
     simp only [List.map_cons, List.singleton_append, e]
   ·simp at h
  ·simp at h
theorem byte_plain {E : Env} (O : E.OK) {e : TypeId} (hk : E.kn e = true) (hE : E.td e = .int .u8) : E.agg e = false ∧ E.size e = 1 := by
 obtain ⟨d, h1, h2⟩ := O.und e hk
 have h3 := O.td e hk
 rw [hE] at h3
 have h3 : E.P.underlying e = some (.int .u8) := h3
 rw [h1, Option.some.injEq] at h3; subst h3
 have h2 : E.agg e = false := h2
 exact ⟨h2, O.scalar e h2⟩
theorem bytesOf_fit {E : Env} {e : TypeId} (ha : E.agg e = false) : ∀ {ys : List PV} {l : List UInt8}, bytesOf ys = some l → ∀ y ∈ ys, fits E e y = true
 | [], l, _, y, hy => by simp at hy
 | x :: ys, l, h, y, hy => by
  cases x <;> first | (simp [bytesOf] at h; done) | skip
  rename_i k n
  cases k <;> first | (simp [bytesOf] at h; done) | skip
  simp only [bytesOf] at h
  split at h
  ·rename_i l' hl'
   rcases List.mem_cons.1 hy with rfl | hy
   ·simp [fits, ha]
   ·exact bytesOf_fit ha hl' y hy
  ·simp at h
def sConvStr (E : Env) (T : TypeId) (ys : List PV) : Option PV :=
 match E.td T with
 | .slice e => (match E.td e, bytesOf ys with | .int .u8, some l => if E.kn T then some (.str ⟨l.toArray⟩) else none | _, _ => none)
 | _ => none
def sRow (x : PV) (σ : Store) : Option (List PV) :=
 match x with
 | .lit xs => some xs
 | .ref b g off len => sList (.ref b g off len) σ
 | _ => none
theorem sRow_list {x : PV} {ys : List PV} (h : sRow x σ = some ys) : sList x σ = some ys := by
 cases x <;> first | exact h | (simp [sRow] at h)
theorem sRow_slice {cx : Cx} (hn : Now E cx σ) {x : PV} {ys : List PV} {v : Value} (hv : V E cx x v) (h : sRow x σ = some ys) : ∃ ad n c, v = .slice ad n c := by
 cases x with
 | lit xs =>
  rcases hv.lit_inv with ⟨_, k, n, hk⟩ | ⟨_, _, _, _, _, _, _, _, hk, _⟩
  ·exact ⟨_, _, _, hk⟩
  ·exact ⟨_, _, _, hk⟩
 | ref b g off len =>
  simp only [sRow, sList] at h
  split at h
  ·rename_i ty g' xs hb
   split at h
   ·rename_i hg
    obtain ⟨rfl, _⟩ := hg
    obtain ⟨m, ca, el, fz, cs, j1, j2, _⟩ := hn.blk hb
    obtain ⟨a, cap, hval, _⟩ := hv.ref_inv.2.2 m j1 j2
    exact ⟨_, _, _, hval⟩
   ·simp at h
  ·simp at h
 | _ => simp [sRow] at h
theorem Y_convStr {E : Env} (O : E.OK) {o : Oper} {T U : TypeId} {x : Operand} {fr : Fr} {σ : Store} {nid : Nat} {xv : PV} {ys : List PV} {r : PV} (ho : o.op = .convert T U x) (hx : Fr.eval fr x = some xv) (hxs : sRow xv σ = some ys) (hkU : E.kn U = true) (hU : E.td U = .str)
  (h : sConvStr E T ys = some r) : Yld E nid o fr σ r σ := Yld_pure fun cx ρ hn he => by
 unfold sConvStr at h
 split at h
 ·rename_i e hT
  split at h
  ·rename_i l hE hl
   split at h
   ·rename_i hkT
    simp only [Option.some.injEq] at h; subst h
    have hu := O.td T hkT; rw [hT] at hu
    obtain ⟨hu, hke, _⟩ := hu
    have hue := O.td e hke
    have hue : E.P.underlying e = some (.int .u8) := by rw [hE] at hue; exact hue
    have huU := O.td U hkU; rw [hU] at huU
    have huU : E.P.underlying U = some .string := huU
    obtain ⟨ha, hsz⟩ := byte_plain O hke hE
    have hv := he x _ hx
    obtain ⟨cs, hr, hrun⟩ := list_ok O hn hv (sRow_list hxs) (bytesOf_fit ha hl)
    have hcs := bytesOf_cells hl hr
    obtain ⟨hlen, hcells⟩ := hrun cx.w (fun _ _ => rfl)
    have hsl : ∃ ad n c, ρ x = .slice ad n c := sRow_slice hn hv hxs
    obtain ⟨ad, n, c, hv'⟩ := hsl
    have hfold : ∀ (l : List UInt8) (r : ByteArray), (l.map (fun b => (b.toNat : Int))).foldl (fun r n => r.push (UInt8.ofNat n.toNat)) r = ⟨r.data ++ l.toArray⟩ := fun l => by
     induction l with
     | nil => intro r; simp
     | cons b l ih =>
      intro r
      simp only [List.map_cons, List.foldl_cons]
      rw [ih]
      simp [ByteArray.push]
    have hb2 : (Conv.bytesToString (.slice ad n c)).run E.P cx.w = .ok (.string ⟨l.toArray⟩) cx.w := by
     rw [hv'] at hlen hcells
     simp only [Builtin.lenOf, Sem.run_pure, Result.ok.injEq, and_true] at hlen
     have hn' : n = ys.length := by simpa using hlen
     cases ad with
     | none =>
      have : l = [] := by
       have hcs0 : cs = [] := by simpa [Builtin.firstCells] using hcells
       rw [hcs0] at hcs
       simpa using hcs.symm
      subst this
      simp [Conv.bytesToString]; rfl
     | some ad =>
      have hc : (loadCells ad n).run E.P cx.w = .ok ((l.map fun b => (b.toNat : Int)).map (Value.int .u8)).toArray cx.w := by
       have : (l.map fun b => (b.toNat : Int)).map (Value.int .u8) = cs := by rw [hcs, List.map_map]; rfl
       rw [this, hn']
       simpa [Builtin.firstCells, hsz] using hcells
      rw [run_bytesToString cx.w ad n c _ hc, hfold]
      simp
    refine ⟨.string ⟨l.toArray⟩, ?_, V_one (.str _) (by simp)⟩
    simp only [execOp, ho, hv', Sem.run_bind, run_convert_bytes_string cx.w T U e ad n c hu hue huU, hb2, Result.andThen_ok, Sem.run_pure]
   ·simp at h
  ·simp at h
 ·simp at h
end
def keyLit : TD → PV → Option Lit
 | .str, .str s => if s.size ≤ maxLen then some (.string s.data.toList) else none
 | .int k, .int k' n => if k' = k ∧ (Lit.int k n).wf = true then some (.int k n) else none
 | _, _ => none
def mget {α : Type} (k : Lit) (es : List (Lit × α)) : Option α := (es.find? fun p => p.1.sameKey k).map (·.2)
def mins {α : Type} (x : Lit × α) : List (Lit × α) → List (Lit × α)
 | [] => [x]
 | y :: r => if x.1.before y.1 then x :: y :: r else y :: mins x r
def mdel {α : Type} (k : Lit) (es : List (Lit × α)) : List (Lit × α) := es.filter fun p => !p.1.sameKey k
def mput {α : Type} (k : Lit) (v : α) (es : List (Lit × α)) : List (Lit × α) := mins (k, v) (mdel k es)
section
variable {E : Env} {σ : Store} {nid : Nat} {cx : Cx}
theorem key_ok (O : E.OK) {K : TypeId} (hk : E.kn K = true) {x : PV} {kl : Lit} {v : Value} (h : keyLit (E.td K) x = some kl) (hv : V E cx x v) : Maps.Keyed E.P K ∧ keyOf E.P K v = some kl := by
 have ht := O.td K hk
 unfold keyLit at h
 split at h
 ·rename_i s hT
  rw [hT] at ht
  split at h
  ·rename_i hs
   simp only [Option.some.injEq] at h; subst h
   rw [hv.str_inv]
   exact ⟨Maps.string_keyed ht, WideMaps.keyOf_string_mk ht hs⟩
  ·simp at h
 ·rename_i k k' n hT
  rw [hT] at ht
  split at h
  ·rename_i hc
   obtain ⟨rfl, hw⟩ := hc
   simp only [Option.some.injEq] at h; subst h
   rw [hv.int_inv]
   exact ⟨Maps.int_keyed ht, Maps.keyOf_int_mk ht hw⟩
  ·simp at h
 ·simp at h
theorem ML.get {es : List (Lit × PV)} {ds : List (Lit × DataW Value)} (h : ML E cx es ds) (k : Lit) : (∃ x v, mget k es = some x ∧ V E cx x v ∧ Maps.has (.map ds) k = true ∧ ∀ z, (DataW.map ds).atKey k z = .held v) ∨ (mget k es = none ∧ Maps.has (.map ds) k = false ∧ ∀ z, (DataW.map ds).atKey k z = z) := by
 induction h with
 | nil => exact .inr ⟨rfl, rfl, fun _ => rfl⟩
 | @cons k0 x v es ds h hs ih =>
  cases hk : k0.sameKey k with
  | true => exact .inl ⟨x, v, by simp [mget, hk], h, by simp [Maps.has, hk], fun z => by simp [DataW.atKey, hk]⟩
  | false =>
   rcases ih with ⟨x', v', h1, h2, h3, h4⟩ | ⟨h1, h3, h4⟩
   ·refine .inl ⟨x', v', ?_, h2, ?_, fun z => ?_⟩
    ·simpa [mget, hk] using h1
    ·simpa [Maps.has, hk] using h3
    ·have := h4 z; simpa [DataW.atKey, hk] using this
   ·refine .inr ⟨?_, ?_, fun z => ?_⟩
    ·simpa [mget, hk] using h1
    ·simpa [Maps.has, hk] using h3
    ·have := h4 z; simpa [DataW.atKey, hk] using this
theorem ML.del {es : List (Lit × PV)} {ds : List (Lit × DataW Value)} (h : ML E cx es ds) (k : Lit) : ML E cx (mdel k es) (ds.filter fun p => !p.1.sameKey k) := by
 induction h with
 | nil => exact .nil
 | @cons k0 x v es ds h hs ih =>
  unfold mdel at ih ⊢
  simp only [List.filter_cons]
  split
  ·exact .cons h ih
  ·exact ih
theorem ML.ins {es : List (Lit × PV)} {ds : List (Lit × DataW Value)} (h : ML E cx es ds) (k : Lit) {x : PV} {v : Value} (hv : V E cx x v) : ML E cx (mins (k, x) es) (DataW.insert (k, .held v) ds) := by
 induction h with
 | nil => exact .cons hv .nil
 | @cons k0 x0 v0 es ds h hs ih =>
  simp only [mins, DataW.insert]
  split
  ·exact .cons hv (.cons h hs)
  ·exact .cons h ih
def sLookup (E : Env) (T : TypeId) (mv xv : PV) (ok : Bool) (σ : Store) : Option PV :=
 match E.td T, mv with
 | .map K e, .map b => match keyLit (E.td K) xv, Store.at σ b with
  | some kl, some (.mp K' es) => if K' = K then some (if ok then .tup [(mget kl es).getD (E.zero e), .bool (mget kl es).isSome] else (mget kl es).getD (E.zero e)) else none
  | _, _ => none
 | _, _ => none
theorem zero_ok (O : E.OK) {e : TypeId} (hk : E.kn e = true) (c : Cx) : ∃ z, (zeroValue e).run E.P c.w = .ok z c.w ∧ V E c (E.zero e) z := by
 obtain ⟨i, z, h1, h2, h3, h4⟩ := O.zero e hk
 refine ⟨z, by simp [zeroValue, typeInfo, h1, h2], ?_⟩
 have := V_of_VC (h4 c).1 (h4 c).2
 rw [h3]; exact this
theorem VL.two {c : Cx} {x y : PV} {u v : Value} (h : V E c x u) (k : V E c y v) : VL E c [x, y] [u, v] := VL.app h k
where
 VL.app {c : Cx} : ∀ {xs ys : List PV} {us vs : List Value}, VL E c xs us → VL E c ys vs → VL E c (xs ++ ys) (us ++ vs)
 | _, _, _, _, .nil, k => k
 | _, _, _, _, .undef hs, k => .undef (VL.app hs k)
 | _, _, _, _, .one a b c hs, k => .one a b c (VL.app hs k)
 | _, _, _, _, .agg a hs, k => .agg a (VL.app hs k)
 | _, _, _, _, .tup a hs, k => .tup a (VL.app hs k)
theorem Y_lookup (O : E.OK) {o : Oper} {T : TypeId} {m x : Operand} {ok : Bool} {fr : Fr} {mv xv v : PV} (ho : o.op = .lookup T m x ok) (hm : Fr.eval fr m = some mv) (hx : Fr.eval fr x = some xv) (hk : E.kn T = true)
  (h : sLookup E T mv xv ok σ = some v) : Yld E nid o fr σ v σ := Yld_pure fun cx ρ hn he => by
 have hmv := he m mv hm
 have hxv := he x xv hx
 have htd := O.td T hk
 unfold sLookup at h
 split at h
 ·rename_i K e b hT
  rw [hT] at htd
  obtain ⟨hu, hkK, hke⟩ := htd
  split at h
  ·rename_i kl K' es hkl hb
   split at h
   ·rename_i hK; subst hK
    simp only [Option.some.injEq] at h
    obtain ⟨kd, hkey⟩ := key_ok O hkK hkl hxv
    obtain ⟨mb, ds, h1, h2, h3, h4, h5, h6⟩ := hn.mp hb hmv
    obtain ⟨z, hz, hzv⟩ := zero_ok O hke cx
    cases ok with
    | true =>
     obtain ⟨u, ps, hrun, hR⟩ := h5.look_ok kd hu hz (zd := .held z) (zp := []) rfl hkey
     simp only [if_true] at h; subst h
     refine ⟨?_, (by simp only [execOp, ho, h4, Sem.run_bind, hrun, Result.andThen_ok, Sem.run_pure]; rfl), ?_⟩
     rcases h6.get kl with ⟨x', v', g1, g2, g3, g4⟩ | ⟨g1, g3, g4⟩
     ·rw [g4] at hR; simp only [asHeld, Option.some.injEq, Prod.mk.injEq, DataW.held.injEq] at hR
      obtain ⟨rfl, -⟩ := hR
      rw [g1, g3]
      exact VL.tup (us := #[u, .bool true]) (VL.two g2 (V_one (.bool _) (by simp))) .nil
     ·rw [g4] at hR; simp only [asHeld, Option.some.injEq, Prod.mk.injEq, DataW.held.injEq] at hR
      obtain ⟨rfl, -⟩ := hR
      rw [g1, g3]
      exact VL.tup (us := #[u, .bool false]) (VL.two hzv (V_one (.bool _) (by simp))) .nil
    | false =>
     obtain ⟨u, ps, hrun, hR⟩ := h5.lookup kd hu hz (zd := .held z) (zp := []) rfl hkey
     simp only [Bool.false_eq_true, if_false] at h; subst h
     refine ⟨?_, (by simp only [execOp, ho, h4, Sem.run_bind, hrun, Result.andThen_ok, Sem.run_pure]; rfl), ?_⟩
     rcases h6.get kl with ⟨x', v', g1, g2, g3, g4⟩ | ⟨g1, g3, g4⟩
     ·rw [g4] at hR; simp only [asHeld, Option.some.injEq, Prod.mk.injEq, DataW.held.injEq] at hR
      obtain ⟨rfl, -⟩ := hR
      rw [g1]; exact g2
     ·rw [g4] at hR; simp only [asHeld, Option.some.injEq, Prod.mk.injEq, DataW.held.injEq] at hR
      obtain ⟨rfl, -⟩ := hR
      rw [g1]; exact hzv
   ·simp at h
  ·simp at h
 ·simp at h
def sMapSet (E : Env) (T : TypeId) (mv kv v : PV) (σ : Store) : Option Store :=
 match E.td T, mv with
 | .map K e, .map b => match keyLit (E.td K) kv, Store.at σ b with
  | some kl, some (.mp K' es) => if K' = K ∧ es.length < 1000000 then some (σ.set b (some (.mp K (mput kl v es)))) else none
  | _, _ => none
 | _, _ => none
theorem Y_mapUpdate (O : E.OK) {o : Oper} {T : TypeId} {m x y : Operand} {fr : Fr} {mv xv yv : PV} {σ' : Store} (ho : o.op = .mapUpdate T m x y) (hm : Fr.eval fr m = some mv) (hx : Fr.eval fr x = some xv) (hy : Fr.eval fr y = some yv) (hk : E.kn T = true)
  (h : sMapSet E T mv xv yv σ = some σ') : Yld E nid o fr σ .undef σ' := fun cx ρ hn he hnid htop => by
 have hmv := he m mv hm
 have hxv := he x xv hx
 have hyv := he y yv hy
 have htd := O.td T hk
 unfold sMapSet at h
 split at h
 ·rename_i K e b hT
  rw [hT] at htd
  obtain ⟨hu, hkK, hke⟩ := htd
  split at h
  ·rename_i kl K' es hkl hb
   split at h
   ·rename_i hK; obtain ⟨rfl, hroom⟩ := hK
    simp only [Option.some.injEq] at h; subst h
    obtain ⟨kd, hkey⟩ := key_ok O hkK hkl hxv
    obtain ⟨mb, ds, h1, h2, h3, h4, h5, h6⟩ := hn.mp hb hmv
    have hl := h6.len
    have hmx : 1000000 ≤ maxLen := by decide
    have hroom' : ds.length < maxLen := by omega
    obtain ⟨w', hrun, hown, hg⟩ := h5.update kd hu hroom' hkey (val := ρ y) (d := .held (ρ y)) (ps := []) rfl
    obtain ⟨n1, n2⟩ := hn.change (w := w') (m' := mb) (blk := .mp K' (mput kl yv es)) h1 hg.size (fun k hne hlt => hg.block k hlt (fun e => hne (by simpa using e))) hg.os hg.tape hg.output (Nat.le_refl _) (fun _ => rfl) (.inl rfl)
     (Nat.lt_of_lt_of_le h5.lt hg.size) (fun ext => by
      refine ⟨h2, h3, DataW.insert (kl, .held (ρ y)) (ds.filter fun p => !p.1.sameKey kl), ?_, ?_⟩
      ·have h7 : ML E cx (mput kl yv es) (DataW.insert (kl, .held (ρ y)) (ds.filter fun p => !p.1.sameKey kl)) := (h6.del kl).ins kl hyv
       rw [h7.len]; exact ownsMap_n hown
      ·exact ((h6.del kl).ins kl hyv).ext ext)
    refine ⟨.skip, undef, w', _, by simp [execOp, ho, h4, hrun, Result.andThen], .inr ⟨rfl, rfl⟩, rfl, n1, V_undef _, n2, fun b hb => .inl hb⟩
   ·simp at h
  ·simp at h
 ·simp at h
def sMapDel (E : Env) (T K : TypeId) (mv kv : PV) (σ : Store) : Option Store :=
 match E.td T, mv with
 | .map K0 e, .map b => match keyLit (E.td K) kv, Store.at σ b with
  | some kl, some (.mp K' es) => if K' = K ∧ K0 = K then some (σ.set b (some (.mp K (mdel kl es)))) else none
  | _, _ => none
 | _, _ => none
theorem Y_delete (O : E.OK) {o : Oper} {c : Call} {T K : TypeId} {m x : Operand} {fr : Fr} {mv xv : PV} {σ' : Store} (ho : o.op = .call c) (hc : c.callee = .builtin .delete) (ha : c.args = #[m, x]) (ht : c.argTypes = #[T, K])
  (hm : Fr.eval fr m = some mv) (hx : Fr.eval fr x = some xv) (hk : E.kn T = true) (h : sMapDel E T K mv xv σ = some σ') : Yld E nid o fr σ (.tup []) σ' := fun cx ρ hn he hnid htop => by
 have hmv := he m mv hm
 have hxv := he x xv hx
 have htd := O.td T hk
 unfold sMapDel at h
 split at h
 ·rename_i K0 e b hT
  rw [hT] at htd
  obtain ⟨hu, hkK, hke⟩ := htd
  split at h
  ·rename_i kl K' es hkl hb
   split at h
   ·rename_i hK; obtain ⟨rfl, rfl⟩ := hK
    simp only [Option.some.injEq] at h; subst h
    obtain ⟨kd, hkey⟩ := key_ok O hkK hkl hxv
    obtain ⟨mb, ds, h1, h2, h3, h4, h5, h6⟩ := hn.mp hb hmv
    obtain ⟨w', hrun, hown, ht0⟩ := h5.drop kd hu hkey o.type
    have hg := ht0.grown
    obtain ⟨n1, n2⟩ := hn.change (w := w') (m' := mb) (blk := .mp K0 (mdel kl es)) h1 hg.size (fun k hne hlt => hg.block k hlt (fun e => hne (by simpa using e))) hg.os hg.tape hg.output (Nat.le_refl _) (fun _ => rfl) (.inl rfl)
     (Nat.lt_of_lt_of_le h5.lt hg.size) (fun ext => by
      refine ⟨h2, h3, ds.filter (fun p => !p.1.sameKey kl), ?_, (h6.del kl).ext ext⟩
      rw [(h6.del kl).len]; exact ownsMap_n hown)
    refine ⟨.value (.tuple #[]), .tuple #[], w', _, ?_, .inl rfl, rfl, n1, VL.tup (us := #[]) .nil .nil, n2, fun b hb => .inl hb⟩
    rw [run_builtin ho hc, ha, ht]
    simp [builtin, h4, hrun, Result.andThen]
   ·simp at h
  ·simp at h
 ·simp at h
theorem Y_makeMap (O : E.OK) {o : Oper} {T K e : TypeId} {fr : Fr} (ho : o.op = .makeMap T none) (hk : E.kn T = true) (hT : E.td T = .map K e) : Yld E nid o fr σ (.map nid) (Store.new σ nid (.mp K [])) := fun cx ρ hn he hnid htop => by
 obtain ⟨h1, h2⟩ := hn.alloc hnid htop (m := ⟨cx.w.heap.size, 0, 0, K, 0⟩) (w := cx.w.alloc (.map #[] 0)) (by simp) (fun k hk => heap_alloc_old' _ _ _ hk) rfl rfl rfl (Nat.le_refl _) (by simp)
  (blk := .mp K []) (fun ext => ⟨rfl, rfl, [], World.ownsMap_made _ _ _ _, .nil⟩)
 refine ⟨.value (.map (some cx.w.heap.size)), _, _, _, ?_, .inl rfl, rfl, h1, ?_, h2, fun _ h => h⟩
 ·simp [execOp, ho, Instr.makeMap]; rfl
 ·refine V_one (.map _ _ rfl (.inr rfl) fun m hm _ => ?_) (by simp)
  simp only [Cx.add, if_true, Option.some.injEq] at hm; subst hm; rfl
end
def optEval (fr : Fr) : Option Operand → Option (Option Int)
 | none => some none
 | some x => match Fr.eval fr x with | some (.int _ n) => some (some n) | _ => none
theorem optEval_ok {fr : Fr} {x : Option Operand} {n : Option Int} (h : optEval fr x = some n) : OptInt fr x n := by
 cases x with
 | none => simp [optEval] at h; subst h; trivial
 | some x =>
  simp only [optEval] at h
  split at h
  ·rename_i k n' hx; simp only [Option.some.injEq] at h; subst h; exact ⟨k, hx⟩
  ·simp at h
def isArr : TD → Bool
 | .arr _ _ => true
 | _ => false
theorem Y_indexArr {E : Env} {σ : Store} {nid : Nat} (O : E.OK) {o : Oper} {T : TypeId} {x ix : Operand} {fr : Fr} {fs : List PV} {k : IntKind} {i : Int} {v : PV} (ho : o.op = .index T x ix) (hx : Fr.eval fr x = some (.agg T fs)) (hi : Fr.eval fr ix = some (.int k i)) (hk : E.kn T = true)
  (hs : isArr (E.td T) = true) (h0 : 0 ≤ i) (h : fs[i.toNat]? = some v) : Yld E nid o fr σ v σ := Yld_pure fun cx ρ hn he => by
 have hv := he x _ hx
 have hiv := V.int_inv (he ix _ hi)
 have htd := O.td T hk
 obtain ⟨cs, hval, hc⟩ := hv.agg_inv
 cases hd : E.td T with
 | arr n e =>
  rw [hd] at htd
  obtain ⟨h1, h2, h3, h4⟩ := htd
  cases hc with
  | agg _ _ _ hc =>
   obtain ⟨U, ds, k1, k2, k3, k4⟩ := hc.get O.toFine i.toNat v h
   have fl := hc.fit_len O.toFine k1
   rw [h2] at k1 k4 fl
   rw [List.getElem?_replicate] at k1
   split at k1
   ·rename_i hlt
    simp only [Option.some.injEq] at k1; subst k1
    rw [rep_off E e n _ (by omega)] at k4 fl
    have l := k3.len O.toFine _ k2
    refine ⟨_, ?_, V_of_VC k3 k2⟩
    have hb : 0 ≤ i ∧ i < (n : Int) := by omega
    simp only [execOp, ho, Sem.run_bind, Instr.index, hiv, asIntOf, Sem.run_pure, run_underlying h1, Result.andThen_ok, hval, hb, and_self, if_true, run_size O h3]
    rw [run_part O h3 k4 l (by omega)]
    rfl
   ·simp at k1
 | _ => rw [hd] at hs; simp [isArr] at hs
def sBuiltin (E : Env) (b : Builtin) (args : List Operand) (types : List TypeId) (fr : Fr) (σ : Store) (nid : Nat) : Option (PV × Store) :=
 match b, args, types with
 | .len, [x], [T] => match Fr.eval fr x with | some xv => if E.kn T then (sLen E T xv σ).map (·, σ) else none | none => none
 | .min, [x, y], _ => match Fr.eval fr x, Fr.eval fr y with | some (.int k a), some (.int k' b) => if k = k' then some (.int k (min a b), σ) else none | _, _ => none
 | .max, [x, y], _ => match Fr.eval fr x, Fr.eval fr y with | some (.int k a), some (.int k' b) => if k = k' then some (.int k (max a b), σ) else none | _, _ => none
 | .max, [x, y, z], _ => match Fr.eval fr x, Fr.eval fr y, Fr.eval fr z with
  | some (.int k a), some (.int k' b), some (.int k'' d) => if k = k' ∧ k = k'' then some (.int k (max (max a b) d), σ) else none | _, _, _ => none
 | .append, [s, x], [S, X] => match Fr.eval fr s, Fr.eval fr x, E.td S, E.td X with
  | some sv, some xv, .slice e, .int .i64 => match sApp E e xv σ true with
   | some ys => if E.kn S ∧ E.kn X ∧ ys.all (fits E e) ∧ 0 < E.bytes e then sAppend E e sv ys σ nid else none
   | none => none
  | some sv, some xv, .slice e, tx => match sList xv σ with
   | some ys => if E.kn S ∧ E.kn X ∧ (tx = .slice e ∨ tx = .str) ∧ ys.all (fits E e) ∧ 0 < E.bytes e then sAppend E e sv ys σ nid else none
   | none => none
  | _, _, _, _ => none
 | .cap, [x], [T] => match Fr.eval fr x, E.td T with | some .nils, .slice _ => if E.kn T then some (.int .i64 0, σ) else none | _, _ => none
 | .delete, [m, x], [T, K] => match Fr.eval fr m, Fr.eval fr x with | some mv, some xv => if E.kn T then (sMapDel E T K mv xv σ).map (.tup [], ·) else none | _, _ => none
 | _, _, _ => none
def sop (E : Env) (op : Op) (fr : Fr) (σ : Store) (nid : Nat) : Option (PV × Store) :=
 match op with
 | .move x => (Fr.eval fr x).map (·, σ)
 | .assign x => (Fr.eval fr x).map (·, σ)
 | .pick c a b => match Fr.eval fr c with | some (.bool t) => (Fr.eval fr (if t then a else b)).map (·, σ) | _ => none
 | .alloc T => if E.kn T then some (.ptr nid 0 0 [], Store.new σ nid (.cells T 0 [E.zero T])) else none
 | .box T x => match Fr.eval fr x with | some v => if fits E T v then some (.ptr nid 0 0 [], Store.new σ nid (.cells T 0 [v])) else none | none => none
 | .load T x => match Fr.eval fr x with | some v => if E.kn T then (sLoad E T v σ).map (·, σ) else none | none => none
 | .store T x y => match Fr.eval fr x, Fr.eval fr y with | some a, some v => if E.kn T then (sStore E T a v σ).map (.undef, ·) else none | _, _ => none
 | .fieldAddr T x k => match Fr.eval fr x with | some v => if E.kn T ∧ E.td T = .st then (sFieldAddr E T v k σ).map (·, σ) else none | none => none
 | .field T x k => match Fr.eval fr x with | some v => if E.kn T ∧ E.td T = .st then (sField T v k).map (·, σ) else none | none => none
 | .indexAddr T x i => match Fr.eval fr x, Fr.eval fr i with | some v, some (.int _ n) => if E.kn T then (sIndexAddr E T v n σ).map (·, σ) else none | _, _ => none
 | .index T x i => match Fr.eval fr x, Fr.eval fr i with
  | some (.str s), some (.int _ n) => if E.kn T ∧ E.td T = .str ∧ 0 ≤ n then (match s[n.toNat]? with | some b => some (.int .u8 b.toNat, σ) | none => none) else none
  | some (.agg t fs), some (.int _ n) => if E.kn T ∧ t = T ∧ isArr (E.td T) = true ∧ 0 ≤ n then (fs[n.toNat]?).map (·, σ) else none
  | _, _ => none
 | .nilCheck x => match Fr.eval fr x with | some v => if sNilCheck v σ then some (v, σ) else none | none => none
 | .binOp o T x y _ => match Fr.eval fr x, Fr.eval fr y with | some a, some b => if E.kn T then (sBin E o T a b).map (·, σ) else none | _, _ => none
 | .unOp o _ x => match Fr.eval fr x with | some a => (sUn o a).map (·, σ) | none => none
 | .convert T U x => match Fr.eval fr x, E.td U with | some (.int _ n), .int k => if E.kn T ∧ E.kn U then some (.int k (k.wrap n), σ) else none | some (.lit ys), .str => if E.kn U then (sConvStr E T ys).map (·, σ) else none | some (.ref b g off len), .str => (match sRow (.ref b g off len) σ with | some ys => if E.kn U then (sConvStr E T ys).map (·, σ) else none | none => none) | _, _ => none
 | .slice T x lo hi mx => match Fr.eval fr x, optEval fr lo, optEval fr hi, optEval fr mx with | some v, some l, some h, some m => if E.kn T then (sSlice E T v l h m σ).map (·, σ) else none | _, _, _, _ => none
 | .extract x k => match Fr.eval fr x with | some (.tup vs) => (vs[k]?).map (·, σ) | _ => none
 | .makeFunc f first cap => match first.toList.mapM (Fr.eval fr), cap.toList.mapM (Fr.eval fr) with | some xs, some ys => some (.fn f xs ys, σ) | _, _ => none
 | .build T parts => match evalParts fr parts.toList with | some ps => if E.kn T ∧ (E.td T = .st ∨ isArr (E.td T)) then (sBuild E T ps).map (·, σ) else none | none => none
 | .buildSlice T len parts => match evalParts fr parts.toList, E.td T with
  | some ps, .slice e => if E.kn T ∧ len * E.size e ≤ 16777216 then (sBuildSlice E e len ps).map fun xs => (.ref nid 0 0 len, Store.new σ nid (.cells e 0 xs)) else none | _, _ => none
 | .makeSlice T l c => match Fr.eval fr l, Fr.eval fr c, E.td T with
  | some (.int _ n), some (.int _ m), .slice e => if E.kn T ∧ 0 ≤ n ∧ n ≤ m ∧ m ≤ 16777216 ∧ E.bytes e ≤ 16777216 then some (.ref nid 0 0 n.toNat, Store.new σ nid (.cells e 0 (List.replicate n.toNat (E.zero e)))) else none | _, _, _ => none
 | .makeInterface T x => match Fr.eval fr x with | some v => if E.kn T ∧ E.td T ≠ .ifc ∧ E.td T ≠ .other ∧ fits E T v then some (.iface T v, σ) else none | none => none
 | .makeMap T none => match E.td T with | .map K _ => if E.kn T then some (.map nid, Store.new σ nid (.mp K [])) else none | _ => none
 | .lookup T m x ok => match Fr.eval fr m, Fr.eval fr x with | some mv, some xv => if E.kn T then (sLookup E T mv xv ok σ).map (·, σ) else none | _, _ => none
 | .mapUpdate T m x y => match Fr.eval fr m, Fr.eval fr x, Fr.eval fr y with | some mv, some xv, some yv => if E.kn T then (sMapSet E T mv xv yv σ).map (.undef, ·) else none | _, _, _ => none
 | .call c => match c.callee with | .builtin b => sBuiltin E b c.args.toList c.argTypes.toList fr σ nid | _ => none
 | _ => none
section
variable {E : Env} {σ : Store} {nid : Nat}
theorem builtin_ok (O : E.OK) {o : Oper} {c : Call} {b : Builtin} {fr : Fr} {v : PV} {σ' : Store} (ho : o.op = .call c) (hc : c.callee = .builtin b) 
  (h : sBuiltin E b c.args.toList c.argTypes.toList fr σ nid = some (v, σ')) : Yld E nid o fr σ v σ' := by
 have arr : ∀ {α : Type} {a : Array α} {l : List α}, a.toList = l → a = l.toArray := fun h => by rw [← h]
 unfold sBuiltin at h
 split at h
 ·rename_i x T hA hT
  split at h
  ·rename_i xv hx
   split at h
   ·rename_i hk
    obtain ⟨r, hr, hh⟩ := Option.map_eq_some_iff.1 h
    simp only [Prod.mk.injEq] at hh; obtain ⟨rfl, rfl⟩ := hh
    exact Y_len O ho hc (arr hA) (arr hT) hx hk hr
   ·simp at h
  ·simp at h
 ·rename_i x y hA
  split at h
  ·rename_i k a k' b hx hy
   split at h
   ·rename_i e; subst e
    simp only [Option.some.injEq, Prod.mk.injEq] at h; obtain ⟨rfl, rfl⟩ := h
    exact Y_min2 ho hc (arr hA) hx hy
   ·simp at h
  ·simp at h
 ·rename_i x y hA
  split at h
  ·rename_i k a k' b hx hy
   split at h
   ·rename_i e; subst e
    simp only [Option.some.injEq, Prod.mk.injEq] at h; obtain ⟨rfl, rfl⟩ := h
    exact Y_max2 ho hc (arr hA) hx hy
   ·simp at h
  ·simp at h
 ·rename_i x y z hA
  split at h
  ·rename_i k a k' b k'' d hx hy hz
   split at h
   ·rename_i e; obtain ⟨rfl, rfl⟩ := e
    simp only [Option.some.injEq, Prod.mk.injEq] at h; obtain ⟨rfl, rfl⟩ := h
    exact Y_max3 ho hc (arr hA) hx hy hz
   ·simp at h
  ·simp at h
 ·rename_i s x S X hA hT
  split at h
  ·rename_i sv xv e hs hx hS hX
   split at h
   ·rename_i ys hys
    split at h
    ·rename_i hcn
     obtain ⟨c1, c2, c3, c4⟩ := hcn
     exact Y_append (zeros := true) O ho hc (arr hA) (arr hT) hs hx hS c1 c2 (by simpa using hX) hys (fun y hy => List.all_eq_true.1 c3 y hy) c4 h
    ·simp at h
   ·simp at h
  ·rename_i sv xv e hs hx hS hne
   split at h
   ·rename_i ys hys
    split at h
    ·rename_i hcn
     obtain ⟨c1, c2, c5, c3, c4⟩ := hcn
     exact Y_append (zeros := false) O ho hc (arr hA) (arr hT) hs hx hS c1 c2 (by simpa using c5) (by simpa [sApp] using hys) (fun y hy => List.all_eq_true.1 c3 y hy) c4 h
    ·simp at h
   ·simp at h
  ·simp at h
 ·rename_i x T hA hT
  split at h
  ·rename_i e hx hS
   split at h
   ·rename_i hk
    simp only [Option.some.injEq, Prod.mk.injEq] at h; obtain ⟨rfl, rfl⟩ := h
    exact Y_cap O ho hc (arr hA) (arr hT) hx hk hS
   ·simp at h
  ·simp at h
 ·rename_i m x T K hA hT
  split at h
  ·rename_i mv xv hm hx
   split at h
   ·rename_i hk
    obtain ⟨r, hr, hh⟩ := Option.map_eq_some_iff.1 h
    simp only [Prod.mk.injEq] at hh; obtain ⟨rfl, rfl⟩ := hh
    exact Y_delete O ho hc (arr hA) (arr hT) hm hx hk hr
   ·simp at h
  ·simp at h
 ·simp at h
theorem sop_ok (O : E.OK) {o : Oper} {fr : Fr} {v : PV} {σ' : Store} (h : sop E o.op fr σ nid = some (v, σ')) : Yld E nid o fr σ v σ' := by
 unfold sop at h
 split at h
 ·rename_i x ho
  obtain ⟨r, hr, hh⟩ := Option.map_eq_some_iff.1 h
  simp only [Prod.mk.injEq] at hh; obtain ⟨rfl, rfl⟩ := hh
  exact Y_move (.inl ho) hr
 ·rename_i x ho
  obtain ⟨r, hr, hh⟩ := Option.map_eq_some_iff.1 h
  simp only [Prod.mk.injEq] at hh; obtain ⟨rfl, rfl⟩ := hh
  exact Y_move (.inr ho) hr
 ·rename_i c a b ho
  split at h
  ·rename_i t hc
   obtain ⟨r, hr, hh⟩ := Option.map_eq_some_iff.1 h
   simp only [Prod.mk.injEq] at hh; obtain ⟨rfl, rfl⟩ := hh
   exact Y_pick ho hc hr
  ·simp at h
 ·rename_i T ho
  split at h
  ·rename_i hk
   simp only [Option.some.injEq, Prod.mk.injEq] at h; obtain ⟨rfl, rfl⟩ := h
   exact Y_alloc O ho hk
  ·simp at h
 ·rename_i T x ho
  split at h
  ·rename_i xv hx
   split at h
   ·rename_i hf
    simp only [Option.some.injEq, Prod.mk.injEq] at h; obtain ⟨rfl, rfl⟩ := h
    exact Y_box O ho hx hf
   ·simp at h
  ·simp at h
 ·rename_i T x ho
  split at h
  ·rename_i xv hx
   split at h
   ·rename_i hk
    obtain ⟨r, hr, hh⟩ := Option.map_eq_some_iff.1 h
    simp only [Prod.mk.injEq] at hh; obtain ⟨rfl, rfl⟩ := hh
    exact Y_load O ho hx hk hr
   ·simp at h
  ·simp at h
 ·rename_i T x y ho
  split at h
  ·rename_i xv yv hx hy
   split at h
   ·rename_i hk
    obtain ⟨r, hr, hh⟩ := Option.map_eq_some_iff.1 h
    simp only [Prod.mk.injEq] at hh; obtain ⟨rfl, rfl⟩ := hh
    exact Y_store O ho hx hy hk hr
   ·simp at h
  ·simp at h
 ·rename_i T x k ho
  split at h
  ·rename_i xv hx
   split at h
   ·rename_i hk
    obtain ⟨r, hr, hh⟩ := Option.map_eq_some_iff.1 h
    simp only [Prod.mk.injEq] at hh; obtain ⟨rfl, rfl⟩ := hh
    exact Y_fieldAddr O ho hx hk.1 hk.2 hr
   ·simp at h
  ·simp at h
 ·rename_i T x k ho
  split at h
  ·rename_i xv hx
   split at h
   ·rename_i hk
    obtain ⟨r, hr, hh⟩ := Option.map_eq_some_iff.1 h
    simp only [Prod.mk.injEq] at hh; obtain ⟨rfl, rfl⟩ := hh
    exact Y_field O ho hx hk.1 hk.2 hr
   ·simp at h
  ·simp at h
 ·rename_i T x i ho
  split at h
  ·rename_i xv j n hx hi
   split at h
   ·rename_i hk
    obtain ⟨r, hr, hh⟩ := Option.map_eq_some_iff.1 h
    simp only [Prod.mk.injEq] at hh; obtain ⟨rfl, rfl⟩ := hh
    exact Y_indexAddr O ho hx hi hk hr
   ·simp at h
  ·simp at h
 ·rename_i T x i ho
  split at h
  ·rename_i s j n hx hi
   split at h
   ·rename_i hk
    split at h
    ·rename_i b hb
     simp only [Option.some.injEq, Prod.mk.injEq] at h; obtain ⟨rfl, rfl⟩ := h
     exact Y_index O ho hx hi hk.1 hk.2.1 hk.2.2 hb
    ·simp at h
   ·simp at h
  ·rename_i t fs k n hx hi
   split at h
   ·rename_i hk
    obtain ⟨r, hr, hh⟩ := Option.map_eq_some_iff.1 h
    simp only [Prod.mk.injEq] at hh; obtain ⟨rfl, rfl⟩ := hh
    obtain ⟨h1, h2, h3, h4⟩ := hk
    subst h2
    exact Y_indexArr O ho hx hi h1 h3 h4 hr
   ·simp at h
  ·simp at h
 ·rename_i x ho
  split at h
  ·rename_i xv hx
   split at h
   ·rename_i hc
    simp only [Option.some.injEq, Prod.mk.injEq] at h; obtain ⟨rfl, rfl⟩ := h
    exact Y_nilCheck ho hx hc
   ·simp at h
  ·simp at h
 ·rename_i op T x y yT ho
  split at h
  ·rename_i xv yv hx hy
   split at h
   ·rename_i hk
    obtain ⟨r, hr, hh⟩ := Option.map_eq_some_iff.1 h
    simp only [Prod.mk.injEq] at hh; obtain ⟨rfl, rfl⟩ := hh
    exact Y_bin O ho hx hy hk hr
   ·simp at h
  ·simp at h
 ·rename_i op T x ho
  split at h
  ·rename_i xv hx
   obtain ⟨r, hr, hh⟩ := Option.map_eq_some_iff.1 h
   simp only [Prod.mk.injEq] at hh; obtain ⟨rfl, rfl⟩ := hh
   exact Y_un ho hx hr
  ·simp at h
 ·rename_i T U x ho
  split at h
  ·rename_i j n k hx hU
   split at h
   ·rename_i hk
    simp only [Option.some.injEq, Prod.mk.injEq] at h; obtain ⟨rfl, rfl⟩ := h
    exact Y_convInt O ho hx hk.1 hk.2 hU
   ·simp at h
  ·rename_i ys hx hU
   split at h
   ·rename_i hk
    obtain ⟨r, hr, hh⟩ := Option.map_eq_some_iff.1 h
    simp only [Prod.mk.injEq] at hh; obtain ⟨rfl, rfl⟩ := hh
    exact Y_convStr O ho hx rfl hk hU hr
   ·simp at h
  ·rename_i b g off len hx hU
   split at h
   ·rename_i ys hys
    split at h
    ·rename_i hk
     obtain ⟨r, hr, hh⟩ := Option.map_eq_some_iff.1 h
     simp only [Prod.mk.injEq] at hh; obtain ⟨rfl, rfl⟩ := hh
     exact Y_convStr O ho hx hys hk hU hr
    ·simp at h
   ·simp at h
  ·simp at h
 ·rename_i T x lo hi mx ho
  split at h
  ·rename_i xv l hh m hx h1 h2 h3
   split at h
   ·rename_i hk
    obtain ⟨r, hr, hh⟩ := Option.map_eq_some_iff.1 h
    simp only [Prod.mk.injEq] at hh; obtain ⟨rfl, rfl⟩ := hh
    exact Y_slice O ho hx (optEval_ok h1) (optEval_ok h2) (optEval_ok h3) hk hr
   ·simp at h
  ·simp at h
 ·rename_i x k ho
  split at h
  ·rename_i vs hx
   obtain ⟨r, hr, hh⟩ := Option.map_eq_some_iff.1 h
   simp only [Prod.mk.injEq] at hh; obtain ⟨rfl, rfl⟩ := hh
   exact Y_extract ho hx hr
  ·simp at h
 ·rename_i f first cap ho
  split at h
  ·rename_i xs ys h1 h2
   simp only [Option.some.injEq, Prod.mk.injEq] at h; obtain ⟨rfl, rfl⟩ := h
   exact Y_makeFunc ho (fun c ρ he => by simpa using VL_map he h1) (fun c ρ he => by simpa using VL_map he h2)
  ·simp at h
 ·rename_i T parts ho
  split at h
  ·rename_i ps hp
   split at h
   ·rename_i hk
    obtain ⟨r, hr, hh⟩ := Option.map_eq_some_iff.1 h
    simp only [Prod.mk.injEq] at hh; obtain ⟨rfl, rfl⟩ := hh
    refine Y_build O ho hk.1 ?_ hp hr
    rcases hk.2 with h | h
    ·exact .inl h
    ·right
     unfold isArr at h
     split at h
     ·rename_i n e he; exact ⟨n, e, he⟩
     ·simp at h
   ·simp at h
  ·simp at h
 ·rename_i T len parts ho
  split at h
  ·rename_i ps e hp hT
   split at h
   ·rename_i hk
    obtain ⟨r, hr, hh⟩ := Option.map_eq_some_iff.1 h
    simp only [Prod.mk.injEq] at hh; obtain ⟨rfl, rfl⟩ := hh
    exact Y_buildSlice O ho hk.1 hT hk.2 hp hr
   ·simp at h
  ·simp at h
 ·rename_i T l c ho
  split at h
  ·rename_i k n k' m e hl hc hT
   split at h
   ·rename_i hk
    simp only [Option.some.injEq, Prod.mk.injEq] at h; obtain ⟨rfl, rfl⟩ := h
    exact Y_makeSlice O ho hk.1 hT hl hc hk.2.1 hk.2.2.1 hk.2.2.2.1 hk.2.2.2.2
   ·simp at h
  ·simp at h
 ·rename_i T x ho
  split at h
  ·rename_i xv hx
   split at h
   ·rename_i hk
    simp only [Option.some.injEq, Prod.mk.injEq] at h; obtain ⟨rfl, rfl⟩ := h
    exact Y_makeInterface O ho hk.1 hk.2.1 hk.2.2.1 hx hk.2.2.2
   ·simp at h
  ·simp at h
 ·rename_i T ho
  split at h
  ·rename_i K e hT
   split at h
   ·rename_i hk
    simp only [Option.some.injEq, Prod.mk.injEq] at h; obtain ⟨rfl, rfl⟩ := h
    exact Y_makeMap O ho hk hT
   ·simp at h
  ·simp at h
 ·rename_i T m x ok ho
  split at h
  ·rename_i mv xv hm hx
   split at h
   ·rename_i hk
    obtain ⟨r, hr, hh⟩ := Option.map_eq_some_iff.1 h
    simp only [Prod.mk.injEq] at hh; obtain ⟨rfl, rfl⟩ := hh
    exact Y_lookup O ho hm hx hk hr
   ·simp at h
  ·simp at h
 ·rename_i T m x y ho
  split at h
  ·rename_i mv xv yv hm hx hy
   split at h
   ·rename_i hk
    obtain ⟨r, hr, hh⟩ := Option.map_eq_some_iff.1 h
    simp only [Prod.mk.injEq] at hh; obtain ⟨rfl, rfl⟩ := hh
    exact Y_mapUpdate O ho hm hx hy hk hr
   ·simp at h
  ·simp at h
 ·rename_i c ho
  split at h
  ·rename_i b hb
   exact builtin_ok O ho hb h
  ·simp at h
 ·simp at h
end
section
variable {E : Env} {N z : Nat} {Q : Post} {fr : Fr} {σ : Store}
theorem VL.app {c : Cx} : ∀ {xs ys : List PV} {us vs : List Value}, VL E c xs us → VL E c ys vs → VL E c (xs ++ ys) (us ++ vs)
 | _, _, _, _, .nil, k => k
 | _, _, _, _, .undef hs, k => .undef (hs.app k)
 | _, _, _, _, .one a b c hs, k => .one a b c (hs.app k)
 | _, _, _, _, .agg a hs, k => .agg a (hs.app k)
 | _, _, _, _, .tup a hs, k => .tup a (hs.app k)
theorem V.fn_inv {c : Cx} {f : Fn} {xs ys : List PV} {v : Value} (h : V E c (.fn f xs ys) v) : ∃ us vs, v = .func f us vs ∧ VL E c xs us.toList ∧ VL E c ys vs.toList := by
 cases h with | one _ hn h hs => cases h with | fn _ _ _ us vs a b => exact ⟨us, vs, rfl, a, b⟩
def afterCall (Q : Post) (K : Fr → Store → Prop) (d : Option Tmp) (fr : Fr) : Re → Store → Prop
 | .ret v, σ => K (Fr.put fr d v) σ
 | .pan x, σ => Q (.pan x) fr σ
@[simp] theorem afterCall_ret (Q : Post) (K : Fr → Store → Prop) (d : Option Tmp) (v : PV) : afterCall Q K d fr (.ret v) σ = K (Fr.put fr d v) σ := rfl
theorem OpW_enter {o : Oper} {K : Fr → Store → Prop} {g : FuncId} {vs : List PV} (hd : ∀ t, o.dst = some t → t < N)
  (hrun : ∀ (cx : Cx) (ρ : Operand → Value), Now E cx σ → Ev E cx fr ρ → ∃ us : Array Value, (execOp ρ o).run E.P cx.w = .ok (.enter g us) cx.w ∧ VL E cx vs us.toList)
  (h : C E g vs σ (afterCall Q K o.dst fr)) : OpW E N z o Q K fr σ := fun cx a ht hn hf => by
 obtain ⟨us, h1, h2⟩ := hrun cx a.eval hn hf.ev
 refine opr_enter h1 ((h cx us hn h2).mono ?_)
 rintro e w' ⟨re, σ', cx', rfl, h3, h4, h5, h6⟩
 cases re with
 | ret x =>
  cases e <;> simp only [ReOK] at h4
  exact ⟨_, σ', cx', rfl, h3, h5, (hf.step h6).put h4 hd, by cases o.dst <;> rfl, h6⟩
 | pan x =>
  cases e <;> simp only [ReOK] at h4
  exact ⟨.pan x, fr, σ', cx', rfl, h3, h4, h5, hf.step h6, rfl, h6.ofBelow ht⟩
theorem run_callFunc (O : E.OK) {g : FuncId} (hg : E.fk g = true) (us : Array Value) (w : World) : (callFunc g us).run E.P w = .ok (.enter g us) w := by
 obtain ⟨fn, h1, h2, h3⟩ := O.fn g hg
 simp only [callFunc, Sem.run_bind, run_program, Result.andThen_ok, h1, h2, h3, Bool.false_eq_true, if_false, Sem.run_pure]
theorem OpW_call (O : E.OK) {o : Oper} {K : Fr → Store → Prop} {c : Call} {f : Operand} {g : FuncId} {xs ys vs : List PV} (ho : o.op = .call c) (hc : c.callee = .value f) (hf : Fr.eval fr f = some (.fn (.func g) xs ys))
  (ha : c.args.toList.mapM (Fr.eval fr) = some vs) (hg : E.fk g = true) (hd : ∀ t, o.dst = some t → t < N) (h : C E g (xs ++ vs ++ ys) σ (afterCall Q K o.dst fr)) : OpW E N z o Q K fr σ :=
 OpW_enter hd (fun cx ρ hn he => by
  obtain ⟨us, ws, h1, h2, h3⟩ := (he f _ hf).fn_inv
  have h4 := VL_map he ha
  refine ⟨us ++ c.args.map ρ ++ ws, ?_, by simpa using (h2.app h4).app h3⟩
  simp [execOp, ho, resolve, hc, h1, Deferred.ofValue, invoke, run_callFunc O hg]) h
theorem V_skip {c : Cx} : V E c (.tup []) undef := VL.tup (us := #[]) .nil .nil
def sGuard (ops : Array Oper) (o : Oper) (fr : Fr) : Option Bool :=
 match o.guard with
 | none => some true
 | some (j, want) => match (ops[j]?).bind (·.dst) with
  | some d => match Fr.get fr d with
   | some (.bool b) => some (b == want)
   | some (.tup []) => some false
   | _ => none
  | none => none
theorem VL.nil_toList {c : Cx} {us : Array Value} (h : VL E c [] us.toList) : us = #[] := by
 have : us.toList = [] := by
  generalize us.toList = l at h
  cases h; rfl
 simpa using this
theorem wanted_of_guard {ops : Array Oper} {o : Oper} {cx : Cx} {a : Act} {b : Bool} (hf : FR E cx N fr a.tmps) (h : sGuard ops o fr = some b) : Region.wanted o (yielded ops a.tmps) = b := by
 unfold sGuard at h
 split at h
 ·rename_i hg; simp only [Option.some.injEq] at h; subst h; simp [Region.wanted, hg]
 ·rename_i j want hg
  split at h
  ·rename_i d hd
   split at h
   ·rename_i bb hb
    simp only [Option.some.injEq] at h; subst h
    obtain ⟨hlt, hv⟩ := hf.2 d _ hb
    have := V.bool_inv hv
    have h2 : a.tmps[d]? = some (.bool bb) := by
     rw [Array.getElem?_eq_getElem (by rw [hf.1]; exact hlt)]
     simp only [Array.getD_eq_getD_getElem?, Array.getElem?_eq_getElem (show d < a.tmps.size by rw [hf.1]; exact hlt), Option.getD_some] at this
     rw [this]
    simp only [Region.wanted, hg, yielded, hd, Option.bind_some, h2]
    cases bb <;> cases want <;> rfl
   ·rename_i hb
    simp only [Option.some.injEq] at h; subst h
    obtain ⟨hlt, hv⟩ := hf.2 d _ hb
    have : a.tmps.getD d undef = .tuple #[] := by
     obtain ⟨us, h1, h2⟩ := hv.tup_inv
     have := VL.nil_toList h2
     rw [h1, this]
    have h2 : a.tmps[d]? = some (.tuple #[]) := by
     rw [Array.getElem?_eq_getElem (by rw [hf.1]; exact hlt)]
     simp only [Array.getD_eq_getD_getElem?, Array.getElem?_eq_getElem (show d < a.tmps.size by rw [hf.1]; exact hlt), Option.getD_some] at this
     rw [this]
    simp only [Region.wanted, hg, yielded, hd, Option.bind_some, h2]
    rfl
   ·simp at h
  ·simp at h
def ROps (E : Env) (N z : Nat) (ops : Array Oper) (Q : Post) (K : Fr → Store → Prop) : List Oper → Fr → Store → Prop
 | [], fr, σ => K fr σ
 | o :: os, fr, σ => ∃ b, sGuard ops o fr = some b ∧ if b then OpW E N z o Q (ROps E N z ops Q K os) fr σ else ROps E N z ops Q K os (Fr.put fr o.dst (.tup [])) σ
theorem wpl_of_ROps {ops : Array Oper} {K : Fr → Store → Prop} (hQ : ∀ fr σ, K fr σ → Q .normal fr σ) : ∀ (os : List Oper) (fr : Fr) (σ : Store), (∀ o ∈ os, ∀ t, o.dst = some t → t < N) → ROps E N z ops Q K os fr σ →
  ∀ (cx cx0 : Cx) (a : Act), cx.top ≤ z → Now E cx σ → FR E cx N fr a.tmps → Step (cx0.below z) cx → wpl E.P ops (Lift E N z a.defers cx0 Q) os a cx.w
 | [], fr, σ, hd, h, cx, cx0, a, ht, hn, hf, hs => by
  refine wpl_nil ⟨.normal, fr, σ, cx, rfl, hQ _ _ h, trivial, hn, hf, rfl, hs⟩
 | o :: os, fr, σ, hd, h, cx, cx0, a, ht, hn, hf, hs => by
  obtain ⟨b, hb, h⟩ := h
  have hw := wanted_of_guard hf hb
  refine wpl_step ?_
  rw [hw]
  cases b with
  | true =>
   simp only [if_true] at h ⊢
   refine opr_mono ?_ ?_ (h cx a ht hn hf)
   ·rintro a' w' ⟨fr', σ', cx', rfl, hk, hn', hf', hd', hs'⟩
    have := wpl_of_ROps hQ os fr' σ' (fun o ho => hd o (by simp [ho])) hk cx' cx0 a' (hs'.top ▸ ht) hn' hf' (hs.transB (hs'.ofBelow ht))
    rw [hd'] at this; exact this
   ·intro e a' w' hl; exact Lift.step hs hl
  | false =>
   simp only [Bool.false_eq_true, if_false] at h ⊢
   have hput : FR E cx N (Fr.put fr o.dst (.tup [])) (a.put o.dst undef).tmps := hf.put V_skip (hd o (by simp))
   have := wpl_of_ROps hQ os _ σ (fun o ho => hd o (by simp [ho])) h cx cx0 (a.put o.dst undef) ht hn hput hs
   have hde : (a.put o.dst undef).defers = a.defers := by cases o.dst <;> rfl
   rw [hde] at this; exact this
theorem T_region {id : Nat} {ops : Array Oper} (hd : ops.toList.all fun o => match o.dst with | some t => decide (t < N) | none => true) (h : ROps E N z ops Q (Q .normal) ops.toList fr σ) : T E N z (.region id ops false) Q fr σ := fun cx a ht hn hf =>
 wr_region_list (wpl_of_ROps (fun _ _ h => h) ops.toList fr σ (fun o ho t ht => by
  have := List.all_eq_true.1 hd o ho
  rw [ht] at this; simpa using this) h cx cx a ht hn hf ((Step.refl cx).ofBelow ht))
def Fr.args : Nat → List PV → Fr
 | _, [] => []
 | k, x :: xs => (k, x) :: Fr.args (k + 1) xs
theorem Fr.get_args : ∀ (k : Nat) (xs : List PV) (t : Nat) (x : PV), Fr.get (Fr.args k xs) t = some x → k ≤ t ∧ xs[t - k]? = some x
 | k, [], t, x, h => by simp [Fr.args, Fr.get] at h
 | k, y :: ys, t, x, h => by
  simp only [Fr.args, Fr.get] at h
  split at h
  ·rename_i e; subst e
   simp only [Option.some.injEq] at h; subst h; simp
  ·have := Fr.get_args (k + 1) ys t x h
   refine ⟨by omega, ?_⟩
   obtain ⟨h1, h2⟩ := this
   rw [show t - k = (t - (k + 1)) + 1 by omega]; simpa using h2
def sRes (E : Env) (fr : Fr) (σ : Store) : List ResultVar → Option (List PV)
 | [] => some []
 | .tmp t :: rs => match Fr.get fr t, sRes E fr σ rs with | some x, some xs => some (x :: xs) | _, _ => none
 | .cell a T :: rs => match Fr.get fr a, sRes E fr σ rs with
  | some p, some xs => if E.kn T then (match sLoad E T p σ with | some x => some (x :: xs) | none => none) else none
  | _, _ => none
def oneOf : List PV → PV
 | [x] => x
 | xs => .tup xs
theorem VL.len {c : Cx} : ∀ {xs : List PV} {vs : List Value}, VL E c xs vs → xs.length = vs.length
 | _, _, .nil => rfl
 | _, _, .undef hs => by simp [hs.len]
 | _, _, .one _ _ _ hs => by simp [hs.len]
 | _, _, .agg _ hs => by simp [hs.len]
 | _, _, .tup _ hs => by simp [hs.len]
theorem VL.cons' {c : Cx} {x : PV} {xs : List PV} {v : Value} {vs : List Value} (h : V E c x v) (hs : VL E c xs vs) : VL E c (x :: xs) (v :: vs) := by
 cases h with
 | undef _ => exact .undef hs
 | one a b c _ => exact .one a b c hs
 | agg a _ => exact .agg a hs
 | tup a _ => exact .tup a hs
def resOne (tmps : Array Value) (r : ResultVar) : Sem Value :=
 match r with
 | .tmp t => pure (tmps.getD t undef)
 | .cell a t => do loadVar t (← asAddr (tmps.getD a undef))
theorem results_eq (fn : Func) (tmps : Array Value) : results fn tmps = (do let vs ← fn.results.mapM (resOne tmps); pure (if h : vs.size = 1 then vs[0] else .tuple vs)) := by
 unfold results
 rfl
theorem results_ok (O : E.OK) {cx : Cx} {tmps : Array Value} (hn : Now E cx σ) (hf : FR E cx N fr tmps) : ∀ (rs : List ResultVar) (xs : List PV), sRes E fr σ rs = some xs →
  ∃ vs : List Value, (rs.mapM (resOne tmps)).run E.P cx.w = .ok vs cx.w ∧ VL E cx xs vs
 | [], xs, h => by simp [sRes] at h; subst h; exact ⟨[], by simp, .nil⟩
 | .tmp t :: rs, xs, h => by
  simp only [sRes] at h
  split at h
  ·rename_i x ys h1 h2
   simp only [Option.some.injEq] at h; subst h
   obtain ⟨vs, i1, i2⟩ := results_ok O hn hf rs ys h2
   exact ⟨_ :: vs, by simp [i1, resOne], .cons' (hf.2 t x h1).2 i2⟩
  ·simp at h
 | .cell a T :: rs, xs, h => by
  simp only [sRes] at h
  split at h
  ·rename_i p ys h1 h2
   split at h
   ·rename_i hk
    split at h
    ·rename_i x hx
     simp only [Option.some.injEq] at h; subst h
     obtain ⟨vs, i1, i2⟩ := results_ok O hn hf rs ys h2
     obtain ⟨u, j1, j2⟩ := load_ok O hn hk (hf.2 a p h1).2 hx
     refine ⟨u :: vs, ?_, .cons' j2 i2⟩
     have : (resOne tmps (.cell a T)).run E.P cx.w = .ok u cx.w := by
      revert j1
      cases hv : tmps.getD a undef with
      | pointer q =>
       cases q with
       | none => simp [Instr.loadAt, Instr.sureAddr]
       | some q => simp [Instr.loadAt, Instr.sureAddr, asAddr, resOne, hv]
      | _ => simp [Instr.loadAt, Instr.sureAddr]
     simp only [List.mapM_cons, Sem.run_bind, this, Result.andThen_ok, i1, Sem.run_pure]
    ·simp at h
   ·simp at h
  ·simp at h
def bodyQ (E : Env) (rs : List ResultVar) (R : Re → Store → Prop) : Post
 | .normal, fr, σ | .ret, fr, σ => ∃ xs, sRes E fr σ rs = some xs ∧ R (.ret (oneOf xs)) σ
 | .pan x, _, σ => R (.pan x) σ
 | _, _, _ => False
theorem body_ok (O : E.OK) {fn : Func} {c : Code} {args : List PV} {R : Re → Store → Prop} (hl : args.length ≤ fn.ntmps)
  (h : T E fn.ntmps σ.length c (bodyQ E fn.results.toList R) (Fr.args 0 args) σ) (cx : Cx) (vs : Array Value) (hn : Now E cx σ) (hv : VL E cx args vs.toList) :
  wpr E.P c (bodyPost E.P fn fun e w' => ∃ re σ' cx', cx'.w = w' ∧ R re σ' ∧ ReOK E cx' re e ∧ Now E cx' σ' ∧ Step cx cx') { tmps := vs ++ Array.replicate (fn.ntmps - vs.size) undef, defers := [] } cx.w := by
 have hlen := hv.len
 have hsz : vs.size = args.length := by simpa using hlen.symm
 have hf : FR E cx fn.ntmps (Fr.args 0 args) (vs ++ Array.replicate (fn.ntmps - vs.size) undef) := by
  refine ⟨by simp; omega, fun t x ht => ?_⟩
  obtain ⟨_, h1⟩ := Fr.get_args 0 args t x ht
  simp only [Nat.sub_zero] at h1
  have hlt := getElem?_lt h1
  obtain ⟨v, k1, k2⟩ := hv.nth t x h1
  refine ⟨by omega, ?_⟩
  have : (vs ++ Array.replicate (fn.ntmps - vs.size) undef).getD t undef = v := by
   simp only [Array.getD_eq_getD_getElem?]
   rw [Array.getElem?_append_left (by omega)]
   have : vs[t]? = some v := by simpa using k1
   simp [this]
  rw [this]; exact k2
 have hn1 : Now E (cx.label σ.length) σ := ⟨Nat.le_refl _, hn.A, hn.IF, hn.imm, fun b m h => by
  obtain ⟨blk, a1, a2, a3, a4⟩ := hn.dom b m h
  exact ⟨blk, a1, a2, a3, a4.ext ⟨fun _ h => h, fun _ _ => rfl, fun _ h => h, fun b _ m h => ⟨m, h, Nat.le_refl _, fun _ => rfl⟩⟩ rfl⟩, hn.live, hn.inj, hn.base⟩
 have hf1 : FR E (cx.label σ.length) fn.ntmps (Fr.args 0 args) (vs ++ Array.replicate (fn.ntmps - vs.size) undef) :=
  ⟨hf.1, fun t x h => ⟨(hf.2 t x h).1, (hf.2 t x h).2.ext ⟨fun _ h => h, fun _ _ => rfl, fun _ h => h, fun b _ m h => ⟨m, h, Nat.le_refl _, fun _ => rfl⟩⟩⟩⟩
 refine wr_mono (h (cx.label σ.length) { tmps := vs ++ Array.replicate (fn.ntmps - vs.size) undef, defers := [] } (Nat.le_refl _) hn1 hf1) ?_
 rintro e a w ⟨ex, fr', σ', cx', rfl, h2, h3, h4, h5, h6, h7⟩
 have h7 : Step (cx.label σ.length) cx' := ⟨⟨h7.ext.I, h7.ext.keeps, fun b hb => h7.ext.A b ⟨hb, hn.A b hb⟩, fun b hb => h7.ext.mu b ⟨hb, hn.A b hb⟩⟩, h7.F, h7.keeps, h7.grow, h7.muold, h7.top, fun b hb => (h7.new b hb).imp And.left id, h7.size, h7.os, h7.tape, h7.output⟩
 have h8 := h7.relabel (c := cx) hn.top
 have hle : Ext cx' (cx'.label cx.top) := ⟨fun _ h => h, fun _ _ => rfl, fun _ h => h, fun b _ m h => ⟨m, h, Nat.le_refl _, fun _ => rfl⟩⟩
 have h9 : Now E (cx'.label cx.top) σ' := ⟨Nat.le_trans (show cx.top ≤ cx'.top from h7.top ▸ hn.top) h4.top, h4.A, h4.IF, h4.imm, fun b m h => by
  obtain ⟨blk, a1, a2, a3, a4⟩ := h4.dom b m h
  exact ⟨blk, a1, a2, a3, a4.ext hle rfl⟩, h4.live, h4.inj, h4.base⟩
 have res : ∀ xs, sRes E fr' σ' fn.results.toList = some xs → ∃ v, (results fn a.tmps).run E.P cx'.w = .ok v cx'.w ∧ V E cx' (oneOf xs) v := fun xs hx => by
  obtain ⟨us, i1, i2⟩ := results_ok O h4 h5 _ _ hx
  have hm : (fn.results.mapM (resOne a.tmps)).run E.P cx'.w = .ok us.toArray cx'.w := by
   rw [← Array.toArray_toList (xs := fn.results), List.mapM_toArray]
   simp only [Sem.run_map, i1, Result.andThen_ok]
  have hl := i2.len
  have hr : (results fn a.tmps).run E.P cx'.w = .ok (if h : us.toArray.size = 1 then us.toArray[0] else .tuple us.toArray) cx'.w := by
   rw [results_eq, Sem.run_bind, hm]; rfl
  refine ⟨_, hr, ?_⟩
  match xs, us, i2, hl with
  | [], [], i2, _ => exact .tup i2 .nil
  | [x], [u], i2, _ => exact i2
  | x :: y :: zs, u :: v :: ws, i2, _ => exact VL.tup (us := (u :: v :: ws).toArray) i2 .nil
 cases ex <;> cases e <;> simp only [ExOK] at h3
 ·obtain ⟨xs, hx, hR⟩ := h2
  obtain ⟨v, r1, r2⟩ := res xs hx
  exact ⟨h6, v, r1, .ret _, σ', cx'.label cx.top, rfl, hR, r2.ext hle, h9, h8⟩
 ·exact h2.elim
 ·obtain ⟨xs, hx, hR⟩ := h2
  obtain ⟨v, r1, r2⟩ := res xs hx
  exact ⟨h6, v, r1, .ret _, σ', cx'.label cx.top, rfl, hR, r2.ext hle, h9, h8⟩
 ·obtain ⟨v, e1, e2⟩ := h3
  exact ⟨h6, .pan _, σ', cx'.label cx.top, rfl, h2, ⟨v, e1, e2.ext hle⟩, h9, h8⟩
theorem C_body (O : E.OK) {f : FuncId} {fn : Func} {c : Code} {args : List PV} {R : Re → Store → Prop} (hfn : E.P.funcs[f]? = some fn) (hb : fn.body = some c) (hl : args.length ≤ fn.ntmps)
  (h : T E fn.ntmps σ.length c (bodyQ E fn.results.toList R) (Fr.args 0 args) σ) : C E f args σ R := fun cx vs hn hv =>
 calls_of_wp hfn hb (wp_of_wr (body_ok O hl h cx vs hn hv))
end
def zchk (E : Env) : Nat → TypeId → PV → List Value → Option (List Value)
 | 0, _, _, _ => none
 | n + 1, T, x, cs =>
  if fits E T x then
   match x, cs with
   | .agg t fs, cs => (((E.lay t).zip fs).foldlM (fun (r : List Value) (p : TypeId × PV) => zchk E n p.1 p.2 r) cs).bind fun r => if (E.lay t).length == fs.length then some r else none
   | .bool b, .bool c :: r => if b == c then some r else none
   | .int k a, .int j b :: r => if k == j && a == b then some r else none
   | .str s, .string u :: r => if s.data.toList == u.data.toList then some r else none
   | .nilp, .pointer none :: r => some r
   | .nils, .slice none 0 0 :: r => some r
   | .nilm, .map none :: r => some r
   | .nilf, .nilFunc :: r => some r
   | .nili, .nilIface :: r => some r
   | _, _ => none
  else none
theorem zchk_ok {E : Env} : ∀ (n : Nat) (T : TypeId) (x : PV) (cs r : List Value), zchk E n T x cs = some r → ∃ ds, cs = ds ++ r ∧ fits E T x = true ∧ ∀ c, VC E c x ds
 | 0, T, x, cs, r, h => by simp [zchk] at h
 | n + 1, T, x, cs, r, h => by
  simp only [zchk] at h
  split at h
  ·rename_i hf
   split at h
   ·rename_i t fs _
    obtain ⟨r', h1, h2⟩ := Option.bind_eq_some_iff.1 h
    split at h2
    ·rename_i hl
     simp only [Option.some.injEq] at h2; subst h2
     have key : ∀ (Ts : List TypeId) (fs : List PV) (cs r : List Value), Ts.length = fs.length → (Ts.zip fs).foldlM (fun (r : List Value) (p : TypeId × PV) => zchk E n p.1 p.2 r) cs = some r → ∃ ds, cs = ds ++ r ∧ ∀ c, VCs E c Ts fs ds := by
      intro Ts
      induction Ts with
      | nil =>
       intro fs cs r hl h
       match fs, hl with
       | [], _ => simp at h; subst h; exact ⟨[], rfl, fun c => .nil⟩
      | cons U Us ih =>
       intro fs cs r hl h
       match fs, hl with
       | f :: fs, hl =>
        simp only [List.zip_cons_cons, List.foldlM_cons] at h
        obtain ⟨r1, h3, h4⟩ := Option.bind_eq_some_iff.1 h
        obtain ⟨ds, rfl, k1, k2⟩ := zchk_ok n U f cs r1 h3
        obtain ⟨es, rfl, k3⟩ := ih fs r1 r (by simpa using hl) h4
        exact ⟨ds ++ es, by simp, fun c => .cons k1 (k2 c) (k3 c)⟩
     obtain ⟨ds, e1, e2⟩ := key _ _ _ _ (eq_of_beq hl) h1
     exact ⟨ds, e1, hf, fun c => .agg _ _ _ (e2 c)⟩
    ·simp at h2
   all_goals (try split at h) <;> simp only [Option.some.injEq, reduceCtorEq] at h <;> try subst h
   ·rename_i e; have := eq_of_beq e; subst this; exact ⟨[_], rfl, hf, fun c => .bool _⟩
   ·rename_i e; simp only [Bool.and_eq_true, beq_iff_eq] at e; obtain ⟨rfl, rfl⟩ := e; exact ⟨[_], rfl, hf, fun c => .int _ _⟩
   ·rename_i s u _ e
    have : s = u := by
     have := eq_of_beq e
     apply ByteArray.ext; exact Array.ext' this
    subst this; exact ⟨[_], rfl, hf, fun c => .str _⟩
   ·exact ⟨[_], rfl, hf, fun c => .nilp⟩
   ·exact ⟨[_], rfl, hf, fun c => .nils none⟩
   ·exact ⟨[_], rfl, hf, fun c => .nilm⟩
   ·exact ⟨[_], rfl, hf, fun c => .nilf⟩
   ·exact ⟨[_], rfl, hf, fun c => .nili⟩
  ·simp at h
def isAggD : TypeDesc → Bool
 | .struct _ | .array _ _ => true
 | _ => false
def tdchk (E : Env) (T : TypeId) (d : TypeDesc) : Bool :=
 match E.td T, d with
 | .bool, .bool => true
 | .int k, .int j => k == j
 | .str, .string => true
 | .ptr e, .pointer f => e == f
 | .slice e, .slice f => e == f && E.kn e && decide (0 < E.size e)
 | .arr n e, .array m f => n == m && e == f && E.lay T == List.replicate n e && E.kn e && decide (0 < E.size e)
 | .map k e, .map j f => k == j && e == f && E.kn k && E.kn e
 | .st, .struct fs => fs.size == (E.lay T).length && (List.range fs.size).all fun k => match fs[k]?, (E.lay T)[k]? with
  | some f, some u => u == f.type && f.offset == offOf E T k && E.kn u && decide (0 < E.size u)
  | _, _ => false
 | .fn, .func _ _ _ => true
 | .ifc, .interface _ => true
 | .other, _ => true
 | _, _ => false
theorem tdchk_ok {E : Env} {T : TypeId} {d : TypeDesc} (hd : E.P.underlying T = some d) (h : tdchk E T d = true) : TDOK E T (E.td T) := by
 unfold tdchk at h
 split at h
 ·rename_i ht; rw [ht]; exact hd
 ·rename_i ht; rw [ht]; have := eq_of_beq h; subst this; exact hd
 ·rename_i ht; rw [ht]; exact hd
 ·rename_i ht; rw [ht]; have := eq_of_beq h; subst this; exact hd
 ·rename_i ht; rw [ht]
  simp only [Bool.and_eq_true, beq_iff_eq, decide_eq_true_eq] at h
  obtain ⟨⟨rfl, h1⟩, h2⟩ := h; exact ⟨hd, h1, h2⟩
 ·rename_i ht; rw [ht]
  simp only [Bool.and_eq_true, beq_iff_eq, decide_eq_true_eq] at h
  obtain ⟨⟨⟨⟨rfl, rfl⟩, h1⟩, h2⟩, h3⟩ := h; exact ⟨hd, h1, h2, h3⟩
 ·rename_i ht; rw [ht]
  simp only [Bool.and_eq_true, beq_iff_eq] at h
  obtain ⟨⟨⟨rfl, rfl⟩, h1⟩, h2⟩ := h; exact ⟨hd, h1, h2⟩
 ·rename_i fs ht; rw [ht]
  simp only [Bool.and_eq_true, beq_iff_eq, List.all_eq_true, List.mem_range] at h
  obtain ⟨h1, h2⟩ := h
  refine ⟨fs, hd, h1, fun k f hk => ?_⟩
  have hlt : k < fs.size := by
   rcases Nat.lt_or_ge k fs.size with h | h
   ·exact h
   ·simp [Array.getElem?_eq_none h] at hk
  have := h2 k hlt
  rw [hk] at this
  split at this
  ·rename_i f' u e1 e2
   simp only [Option.some.injEq] at e1; subst e1
   simp only [Bool.and_eq_true, beq_iff_eq, decide_eq_true_eq] at this
   obtain ⟨⟨⟨rfl, j2⟩, j3⟩, j4⟩ := this
   exact ⟨e2, j2, j3, j4⟩
  ·simp at this
 ·rename_i ht; rw [ht]; exact ⟨_, _, _, hd⟩
 ·rename_i ht; rw [ht]; exact ⟨_, hd⟩
 ·rename_i ht; rw [ht]; trivial
 ·simp at h
def tchk (E : Env) (T : TypeId) : Bool :=
 (match E.P.info? T with
  | some i => i.size == E.size T && i.bytes == E.bytes T && (match i.zero with
   | some z => (match z with | .agg _ => E.agg T | _ => !E.agg T && z.cells.size == 1) && (match zchk E 8 T (E.zero T) z.cells.toList with | some [] => true | _ => false)
   | none => false)
  | none => false) &&
 (match E.P.underlying T with
  | some d => E.agg T == isAggD d && tdchk E T d
  | none => false)
def fchk (E : Env) (f : FuncId) : Bool := match E.P.funcs[f]? with | some g => !(g.name == "runtime.NumGoroutine") && g.body.isSome | none => false
theorem Env.ok_of_check {E : Env} (F : E.Fine) (ts fs : List Nat) (hk : ∀ T, E.kn T = true → T ∈ ts) (hf : ∀ f, E.fk f = true → f ∈ fs) (ht : ts.all (tchk E) = true) (hg : fs.all (fchk E) = true) : E.OK := by
 have H : ∀ T, E.kn T = true → tchk E T = true := fun T h => List.all_eq_true.1 ht T (hk T h)
 have A : ∀ T, E.kn T = true → ∃ i z d, E.P.info? T = some i ∧ i.size = E.size T ∧ i.bytes = E.bytes T ∧ i.zero = some z ∧ z = mkv0 E T z.cells.toList ∧ (∀ c, VC E c (E.zero T) z.cells.toList ∧ fits E T (E.zero T) = true) ∧
   E.P.underlying T = some d ∧ E.agg T = isAggD d ∧ tdchk E T d = true := fun T h => by
  have := H T h
  unfold tchk at this
  simp only [Bool.and_eq_true] at this
  obtain ⟨h1, h2⟩ := this
  split at h2
  ·rename_i d hd
   simp only [Bool.and_eq_true, beq_iff_eq] at h2
   split at h1
   ·rename_i i hi
    simp only [Bool.and_eq_true, beq_iff_eq] at h1
    obtain ⟨⟨j1, j2⟩, j3⟩ := h1
    split at j3
    ·rename_i z hz
     simp only [Bool.and_eq_true] at j3
     obtain ⟨j3, j4⟩ := j3
     split at j4
     ·rename_i hzc
      obtain ⟨ds, e1, e2, e3⟩ := zchk_ok _ _ _ _ _ hzc
      rw [List.append_nil] at e1
      refine ⟨i, z, d, hi, j1, j2, hz, ?_, fun c => ⟨by rw [e1]; exact e3 c, e2⟩, hd, h2.1, h2.2⟩
      split at j3
      ·rename_i cs; simp [mkv0, j3, Value.cells]
      ·rename_i hne
       simp only [Bool.and_eq_true, Bool.not_eq_true', beq_iff_eq] at j3
       simp only [mkv0, j3.1, Bool.false_eq_true, if_false]
       cases z <;> first | rfl | exact absurd rfl (hne _)
     ·simp at j4
    ·simp at j3
   ·simp at h1
  ·simp at h2
 refine { F with info := fun T h => ?_, und := fun T h => ?_, td := fun T h => ?_, zero := fun T h => ?_, fn := fun f h => ?_ }
 ·obtain ⟨i, z, d, h1, h2, h3, _⟩ := A T h; exact ⟨i, h1, h2, h3⟩
 ·obtain ⟨i, z, d, _, _, _, _, _, _, h1, h2, h3⟩ := A T h
  exact ⟨d, h1, by rw [h2]; cases d <;> rfl⟩
 ·obtain ⟨i, z, d, _, _, _, _, _, _, h1, h2, h3⟩ := A T h; exact tdchk_ok h1 h3
 ·obtain ⟨i, z, d, h1, _, _, h4, h5, h6, _⟩ := A T h; exact ⟨i, z, h1, h4, h5, h6⟩
 ·have := List.all_eq_true.1 hg f (hf f h)
  unfold fchk at this
  split at this
  ·rename_i g hg'
   simp only [Bool.and_eq_true, Bool.not_eq_true'] at this
   exact ⟨g, hg', this.1, by cases hb : g.body <;> simp_all⟩
  ·simp at this
def u8sOf : List PV → Option (List UInt8)
 | [] => some []
 | .int .u8 n :: r => if 0 ≤ n ∧ n < 256 then (u8sOf r).map (UInt8.ofNat n.toNat :: ·) else none
 | _ => none
theorem u8sOf_map (l : List UInt8) : u8sOf (l.map fun b => .int .u8 b.toNat) = some l := by
 induction l with
 | nil => rfl
 | cons b l ih =>
  have hb : b.toNat < 256 := b.toNat_lt
  simp only [List.map_cons, u8sOf, ih, Option.map_some]
  rw [if_pos (by omega)]
  simp
def liveAt (σ : Store) (b g : Nat) : Bool := match Store.at σ b with | some (.cells _ g' _) => g' == g | _ => false
def ptrRes : BinOp → Bool → Option (List PV)
 | .eql, b => some [.bool b]
 | .neq, b => some [.bool !b]
 | _, _ => none
def isSl : PV → Bool
 | .lit _ => true
 | .nils => true
 | .ref .. => true
 | _ => false
attribute [simp] ptrRes isSl liveAt
def nilCmp (E : Env) (op : Op) (fr : Fr) (σ : Store) : Option (List PV) :=
 match op with
 | .binOp .eql T x (.const (.slice none 0 0)) _ => match E.td T, Fr.eval fr x with
  | .slice _, some (.lit []) => if E.kn T then some [.bool true, .bool false] else none
  | .slice _, some .nils => if E.kn T then some [.bool true, .bool false] else none
  | .slice _, some (.lit (_ :: _)) => if E.kn T then some [.bool false] else none
  | _, _ => none
 | .binOp o T x (.const (.pointer none)) _ => match E.td T, Fr.eval fr x with
  | .ptr _, some (.ptr b g i p) => if E.kn T ∧ liveAt σ b g = true then ptrRes o false else none
  | .ptr _, some .nilp => if E.kn T then ptrRes o true else none
  | _, _ => none
 | .convert T U x => match E.td T, E.td U with
  | .slice e, .slice _ => match Fr.eval fr x, E.td e with
   | some (.ref b g off len), .int .u8 => if T = U ∧ E.kn T ∧ 0 < len ∧ liveAt σ b g = true then some [.ref b g off len] else none
   | _, _ => none
  | .slice e, .str => match Fr.eval fr x, E.td e with
   | some v, .int .u8 => if E.kn T ∧ E.kn U ∧ isSl v = true then (match sList v σ with | some ys => (match u8sOf ys with | some l => some [.str ⟨l.toArray⟩] | none => none) | none => none) else none
   | _, _ => none
  | _, _ => none
 | _ => none
section
variable {E : Env} {N z : Nat} {Q : Post} {fr : Fr} {σ : Store}
theorem eqGuard_slice (P : Program) (op : BinOp) (T : TypeId) (x y : Operand) (a a' : Option Addr) (n c n' c' : Nat) (w : World) : (eqGuard op T x y (.slice a n c) (.slice a' n' c')).run P w = .ok () w := by
 unfold eqGuard; cases op <;> simp
theorem eqGuard_ptr (P : Program) (op : BinOp) (T : TypeId) (x y : Operand) (a a' : Option Addr) (w : World) : (eqGuard op T x y (.pointer a) (.pointer a')).run P w = .ok () w := by
 unfold eqGuard; cases op <;> simp
theorem run_equalIn_ptr_nil {P : Program} (w : World) (d : Nat) (t e : TypeId) (a : Option Addr) (h : P.underlying t = some (.pointer e)) : (Op.equalIn (d + 1) t (.pointer a) (.pointer none)).run P w = .ok a.isNone w := by
 cases a <;> simp [Op.equalIn, run_underlying h]
theorem run_eql_ptr_nil {P : Program} (w : World) (t e : TypeId) (a : Option Addr) (h : P.underlying t = some (.pointer e)) : (binOp .eql t (.pointer a) (.pointer none)).run P w = .ok (.bool a.isNone) w := by
 simp only [binOp]
 simp [Op.equal, Op.maxDepth, run_equalIn_ptr_nil w 9999 t e a h]
theorem run_neq_ptr_nil {P : Program} (w : World) (t e : TypeId) (a : Option Addr) (h : P.underlying t = some (.pointer e)) : (binOp .neq t (.pointer a) (.pointer none)).run P w = .ok (.bool (!a.isNone)) w := by
 simp only [binOp]
 simp [Op.equal, Op.maxDepth, run_equalIn_ptr_nil w 9999 t e a h]
theorem VR_u8s {c : Cx} {e : TypeId} : ∀ {ys : List PV} {cs : List Value} {l : List UInt8}, VR E c e ys cs → u8sOf ys = some l → cs = (l.map fun b => (b.toNat : Int)).map (Value.int .u8)
 | [], cs, l, h, hb => by
  simp only [u8sOf, Option.some.injEq] at hb; subst hb
  cases h; rfl
 | y :: ys, cs, l, h, hb => by
  unfold u8sOf at hb
  split at hb
  ·rename_i heq; simp at heq
  ·rename_i n r heq
   simp only [List.cons.injEq] at heq; obtain ⟨rfl, rfl⟩ := heq
   split at hb
   ·rename_i hn
    simp only [Option.map_eq_some_iff] at hb
    obtain ⟨l', h1, rfl⟩ := hb
    cases h with
    | cons hf hx hs =>
     cases hx
     have ih := VR_u8s hs h1
     rw [ih]
     have : (UInt8.ofNat n.toNat).toNat = n.toNat := by simp; omega
     have e2 : ((UInt8.ofNat n.toNat).toNat : Int) = n := by rw [this]; omega
     simp only [List.map_cons, e2, List.cons_append, List.nil_append]
   ·simp at hb
  ·simp at hb
theorem u8_plain (O : E.OK) {e : TypeId} (hk : E.kn e = true) (hE : E.td e = .int .u8) : E.agg e = false ∧ E.size e = 1 := by
 obtain ⟨d, h1, h2⟩ := O.und e hk
 have h3 := O.td e hk
 rw [hE] at h3
 have h3 : E.P.underlying e = some (.int .u8) := h3
 rw [h1, Option.some.injEq] at h3; subst h3
 have h2 : E.agg e = false := h2
 exact ⟨h2, O.scalar e h2⟩
theorem bytes_fit {e : TypeId} (ha : E.agg e = false) : ∀ {ys : List PV} {l : List UInt8}, u8sOf ys = some l → ∀ y ∈ ys, fits E e y = true
 | [], l, _, y, hy => by simp at hy
 | x :: ys, l, h, y, hy => by
  unfold u8sOf at h
  split at h
  ·rename_i heq; simp at heq
  ·rename_i n r heq
   simp only [List.cons.injEq] at heq; obtain ⟨rfl, rfl⟩ := heq
   split at h
   ·simp only [Option.map_eq_some_iff] at h
    obtain ⟨l', h1, _⟩ := h
    rcases List.mem_cons.1 hy with rfl | hy
    ·simp [fits, ha]
    ·exact bytes_fit ha h1 y hy
   ·simp at h
  ·simp at h
theorem live_at {σ : Store} {b g : Nat} (h : liveAt σ b g = true) : ∃ ty xs, Store.at σ b = some (.cells ty g xs) := by
 unfold liveAt at h
 split at h
 ·rename_i ty g' xs hb
  simp only [beq_iff_eq] at h; subst h
  exact ⟨ty, xs, hb⟩
 ·simp at h
theorem nilCmp_run (O : E.OK) {o : Oper} {vs : List PV} {cx : Cx} {a : Act} (h : nilCmp E o.op fr σ = some vs) (hn : Now E cx σ) (hf : FR E cx N fr a.tmps) :
  ∃ x v w' cx', (execOp a.eval o).run E.P cx.w = .ok (.value v) w' ∧ cx'.w = w' ∧ x ∈ vs ∧ V E cx' x v ∧ Now E cx' σ ∧ Step cx cx' := by
 unfold nilCmp at h
 split at h
 ·rename_i T x U ho
  have key : ∀ e, E.kn T = true → E.td T = .slice e → (∃ (ad : Option Addr) (n c : Nat), a.eval x = .slice ad n c ∧ .bool ad.isNone ∈ vs) →
    ∃ x v w' cx', (execOp a.eval o).run E.P cx.w = .ok (.value v) w' ∧ cx'.w = w' ∧ x ∈ vs ∧ V E cx' x v ∧ Now E cx' σ ∧ Step cx cx' := fun e hk hT ⟨ad, n, c, hv, hb⟩ => by
   have hu := O.td T hk; rw [hT] at hu
   refine ⟨.bool ad.isNone, .bool ad.isNone, cx.w, cx, ?_, rfl, hb, V_one (.bool _) (by simp), hn, Step.refl cx⟩
   have := Lib.run_eql_slice_nil (P := E.P) cx.w T e ad n c 0 0 hu.1
   simp only [execOp, ho, hv, Sem.run_bind, show a.eval (.const (.slice none 0 0)) = .slice none 0 0 from rfl, eqGuard_slice, this, Result.andThen_ok, Sem.run_pure]
  split at h
  ·rename_i e hT hx
   split at h
   ·rename_i hk
    simp only [Option.some.injEq] at h; subst h
    obtain ⟨a1, a2, e2⟩ | h3 := (hf.ev x _ hx).lit_inv
    ·obtain ⟨n, hv⟩ := e2
     exact key e hk hT ⟨_, _, _, hv, by cases a2 <;> simp⟩
    ·obtain ⟨_, k, o', cap, _, _, _, _, hv, _⟩ := h3
     exact key e hk hT ⟨_, _, _, hv, by simp⟩
   ·simp at h
  ·rename_i e hT hx
   split at h
   ·rename_i hk
    simp only [Option.some.injEq] at h; subst h
    obtain ⟨a2, hv⟩ := (hf.ev x _ hx).nils_inv
    exact key e hk hT ⟨_, _, _, hv, by cases a2 <;> simp⟩
   ·simp at h
  ·rename_i e y ys hT hx
   split at h
   ·rename_i hk
    simp only [Option.some.injEq] at h; subst h
    obtain ⟨a1, _⟩ | h3 := (hf.ev x _ hx).lit_inv
    ·simp at a1
    ·obtain ⟨_, k, o', cap, _, _, _, _, hv, _⟩ := h3
     exact key e hk hT ⟨_, _, _, hv, by simp⟩
   ·simp at h
  ·simp at h
 ·rename_i op T x U hne
  have ho : o.op = .binOp op T x (.const (.pointer none)) U := by assumption
  have key : ∀ e (ad : Option Addr), E.kn T = true → E.td T = .ptr e → a.eval x = .pointer ad → ptrRes op ad.isNone = some vs →
    ∃ x v w' cx', (execOp a.eval o).run E.P cx.w = .ok (.value v) w' ∧ cx'.w = w' ∧ x ∈ vs ∧ V E cx' x v ∧ Now E cx' σ ∧ Step cx cx' := fun e ad hk hT hv hop => by
   have hu := O.td T hk; rw [hT] at hu
   have hu : E.P.underlying T = some (.pointer e) := hu
   unfold ptrRes at hop
   split at hop
   ·simp only [Option.some.injEq] at hop; subst hop
    refine ⟨_, .bool ad.isNone, cx.w, cx, ?_, rfl, List.mem_singleton.2 rfl, V_one (.bool _) (by simp), hn, Step.refl cx⟩
    simp only [execOp, ho, hv, Sem.run_bind, show a.eval (.const (.pointer none)) = .pointer none from rfl, eqGuard_ptr, run_eql_ptr_nil _ T e ad hu, Result.andThen_ok, Sem.run_pure]
   ·simp only [Option.some.injEq] at hop; subst hop
    refine ⟨_, .bool !ad.isNone, cx.w, cx, ?_, rfl, List.mem_singleton.2 rfl, V_one (.bool _) (by simp), hn, Step.refl cx⟩
    simp only [execOp, ho, hv, Sem.run_bind, show a.eval (.const (.pointer none)) = .pointer none from rfl, eqGuard_ptr, run_neq_ptr_nil _ T e ad hu, Result.andThen_ok, Sem.run_pure]
   ·simp at hop
  split at h
  ·rename_i e b g i p hT hx
   split at h
   ·rename_i hk
    obtain ⟨ty, xs, hb⟩ := live_at hk.2
    obtain ⟨m, ca, el, fz, cs, j1, j2, _⟩ := hn.blk hb
    have := (hf.ev x _ hx).ptr_inv.2.2 m j1 j2
    exact key e _ hk.1 hT this h
   ·simp at h
  ·rename_i e hT hx
   split at h
   ·rename_i hk
    have hv : a.eval x = .pointer none := by
     exact (hf.ev x _ hx).nilp_inv
    exact key e _ hk hT hv h
   ·simp at h
  ·simp at h
 ·rename_i T U x ho
  split at h
  ·rename_i e e' hT hU
   split at h
   ·rename_i b g off len hx hE
    split at h
    ·rename_i hc
     obtain ⟨rfl, hk, hlen, hlive⟩ := hc
     simp only [Option.some.injEq] at h; subst h
     obtain ⟨ty, xs, hb⟩ := live_at hlive
     obtain ⟨m, ca, el, fz, cs, j1, j2, j3, j4, j5, j6, j7, j8, j9⟩ := hn.blk hb
     have hu := O.td T hk; rw [hT] at hu
     obtain ⟨hu, hke, _⟩ := hu
     have hue := O.td e hke; rw [hE] at hue
     have hue : E.P.underlying e = some (.int .u8) := hue
     obtain ⟨ad, cap, hv, hcap, hh⟩ := (hf.ev x _ hx).ref_inv.2.2 m j1 j2
     obtain ⟨had, hfit⟩ := hh.resolve_left (by omega)
     subst had
     have hshape : cx.w.shape? m.blk = some (el, ca.size) := by simp [World.shape?, j4]
     let fz' : Nat × Nat := if fz.1 = fz.2 then (ca.size, ca.size + 1) else (min fz.1 ca.size, max fz.2 (ca.size + 1))
     let w' : World := { cx.w with heap := cx.w.heap.setIfInBounds m.blk (.cells ca el fz') }
     have hlt : m.blk < cx.w.heap.size := (Array.getElem?_eq_some_iff.1 j4).1
     have hfr : cx.w.freeze ⟨m.blk, ca.size, none⟩ 1 = w' := by
      unfold World.freeze
      rw [if_neg (by decide)]
      refine congrArg (fun h => ({ cx.w with heap := h } : World)) ?_
      apply Array.ext
      ·simp
      ·intro i h1 h2
       rw [Array.getElem_modify, Array.getElem_setIfInBounds (by simpa using h1)]
       split
       ·rename_i he; subst he
        have := (Array.getElem?_eq_some_iff.1 j4).2
        rw [this]
        obtain ⟨lo, hi⟩ := fz
        simp only [fz', beq_iff_eq]
       ·rfl
     obtain ⟨n1, n2⟩ := hn.change (w := w') (m' := m) (blk := .cells ty g xs) j1 (by simp [w']) (fun k hk1 hk2 => by simp only [w', Array.getElem?_setIfInBounds_ne (Ne.symm hk1)]) rfl rfl rfl (Nat.le_refl _) (fun _ => rfl) (.inl rfl)
      (by simpa [w'] using hlt) (fun ext => by
       refine ⟨j2, j3, ca, el, fz', cs, by simp [Cx.at, w', hlt], j5, j6.ext ext, j7, j8, ?_⟩
       right
       rcases j9 with h9 | h9
       ·simp [fz', h9]
       ·simp only [fz']
        split
        ·exact Nat.le_refl _
        ·simp only; omega)
     have hset : σ.set b (some (.cells ty g xs)) = σ := by
      have := Store.at_some hb
      have hl := getElem?_lt this
      rw [List.getElem?_eq_getElem hl, Option.some.injEq] at this
      rw [← this, List.set_getElem_self]
     rw [hset] at n1
     refine ⟨_, _, w', _, ?_, rfl, List.mem_singleton.2 rfl, (hf.ev x _ hx).ext n2.ext, n1, n2⟩
     simp only [execOp, ho, hv, convert, Sem.run_bind, run_underlying hu, Result.andThen_ok, beq_self_eq_true, run_underlying hue, markStringish]
     simp [hshape, hfr]
    ·simp at h
   ·simp at h
  ·rename_i e hT hU
   split at h
   ·rename_i xv hx hE
    split at h
    ·rename_i hk
     split at h
     ·rename_i ys hys
      split at h
      ·rename_i l hl
       simp only [Option.some.injEq] at h; subst h
       have hu := O.td T hk.1; rw [hT] at hu
       obtain ⟨hu, hke, _⟩ := hu
       have hue := O.td e hke
       have hue : E.P.underlying e = some (.int .u8) := by rw [hE] at hue; exact hue
       have huU := O.td U hk.2.1; rw [hU] at huU
       have huU : E.P.underlying U = some .string := huU
       have hfit : ∀ y ∈ ys, fits E e y = true := bytes_fit (u8_plain O hke hE).1 hl
       obtain ⟨cs, hr, hrun⟩ := list_ok O hn (hf.ev x _ hx) hys hfit
       have hcs := VR_u8s hr hl
       obtain ⟨hlen, hcells⟩ := hrun cx.w (fun _ _ => rfl)
       refine ⟨_, .string ⟨l.toArray⟩, cx.w, cx, ?_, rfl, List.mem_singleton.2 rfl, V_one (.str _) (by simp), hn, Step.refl cx⟩
       have hsz : E.size e = 1 := (u8_plain O hke hE).2
       have hsl : ∃ ad n c, a.eval x = .slice ad n c := by
        have hv := hf.ev x _ hx
        cases xv <;> simp only [isSl, Bool.false_eq_true, and_false] at hk
        ·obtain ⟨k, hk⟩ := hv.nils_inv
         exact ⟨_, _, _, hk⟩
        ·rcases hv.lit_inv with ⟨_, k, n, hk⟩ | ⟨_, _, _, _, _, _, _, _, hk, _⟩
         ·exact ⟨_, _, _, hk⟩
         ·exact ⟨_, _, _, hk⟩
        ·rename_i b g off len
         simp only [sList] at hys
         split at hys
         ·rename_i ty g' xs hb
          split at hys
          ·rename_i hc
           obtain ⟨rfl, _⟩ := hc
           obtain ⟨m, ca, el, fz, cs, j1, j2, _⟩ := hn.blk hb
           obtain ⟨ad, cap, hv, _⟩ := hv.ref_inv.2.2 m j1 j2
           exact ⟨_, _, _, hv⟩
          ·simp at hys
         ·simp at hys
       obtain ⟨ad, n, c, hv⟩ := hsl
       have hb2 : (Conv.bytesToString (.slice ad n c)).run E.P cx.w = .ok (.string ⟨l.toArray⟩) cx.w := by
        rw [hv] at hlen hcells
        simp only [Builtin.lenOf, Sem.run_pure, Result.ok.injEq, and_true] at hlen
        have hn' : n = ys.length := by simpa using hlen
        cases ad with
        | none =>
         have : l = [] := by
          have hcs0 : cs = [] := by
           simpa [Builtin.firstCells] using hcells
          rw [hcs0] at hcs
          simpa using hcs.symm
         subst this
         simp [Conv.bytesToString]; rfl
        | some ad =>
         have hc : (loadCells ad n).run E.P cx.w = .ok ((l.map fun b => (b.toNat : Int)).map (Value.int .u8)).toArray cx.w := by
          rw [← hcs, hn']
          simpa [Builtin.firstCells, hsz] using hcells
         rw [run_bytesToString cx.w ad n c _ hc, foldl_push_byteCells]
         simp
       simp only [execOp, ho, hv, Sem.run_bind, run_convert_bytes_string cx.w T U e ad n c hu hue huU, hb2, Result.andThen_ok, Sem.run_pure]
      ·simp at h
     ·simp at h
    ·simp at h
   ·simp at h
  ·simp at h
 ·simp at h
theorem OpW_nilCmp (O : E.OK) {o : Oper} {K : Fr → Store → Prop} {vs : List PV} (h : nilCmp E o.op fr σ = some vs) (hd : ∀ t, o.dst = some t → t < N) (hK : ∀ v ∈ vs, K (Fr.put fr o.dst v) σ) : OpW E N z o Q K fr σ := fun cx a ht hn hf => by
 obtain ⟨x, v, w', cx', hrun, rfl, hx, hv, hn', hs⟩ := nilCmp_run (N := N) O h hn hf
 exact opr_value hrun (.inl rfl) ⟨_, σ, cx', rfl, hK x hx, hn', (hf.step hs).put hv hd, by cases o.dst <;> rfl, hs⟩
end
end Go.Proofs.YtdplbgfokoajjaaGreat
end
