/- Operations on memory, one by one: reading, writing, addresses. -/
import Derived.Test.YthllcknfidnfaaaSf
import Derived.Below
set_option linter.unusedVariables false
set_option linter.unusedSimpArgs false
namespace Go.Proofs.Ythllcknfidnfaaa
open Go

section
variable {E : Env} {cx : Cx} {σ : Store} {nid : Nat}

theorem rep_off (E : Env) (T : TypeId) (n i : Nat) (h : i ≤ n) : (((List.replicate n T).take i).map E.size).sum = i * E.size T := by
  rw [List.take_replicate, Nat.min_eq_left h, List.map_replicate, List.sum_replicate_nat]

theorem VCs.elem (F : E.Fine) {c : Cx} {xs : List PV} {cs : List Value} {T : TypeId} (h : VCs E c (List.replicate xs.length T) xs cs) {i : Nat} {y : PV} (hy : xs[i]? = some y) :
    ∃ ds, fits E T y = true ∧ VC E c y ds ∧ LW cs (i * E.size T) ds := by
  have hi : i < xs.length := by
    rcases Nat.lt_or_ge i xs.length with h' | h'
    · exact h'
    · simp [List.getElem?_eq_none h'] at hy
  obtain ⟨U, ds, h1, h2, h3, h4⟩ := h.get F i y hy
  simp only [List.getElem?_replicate, hi, if_true, Option.some.injEq] at h1
  subst h1
  rw [rep_off E T _ i (by omega)] at h4
  exact ⟨ds, h2, h3, h4⟩

/-- A block of the store that lives. -/
theorem Now.blk (hn : Now E cx σ) {b ty g : Nat} {xs : List PV} (h : Store.at σ b = some (.cells ty g xs)) :
    ∃ m ca e fz cs, cx.mu b = some m ∧ m.gen = g ∧ m.ty = ty ∧ cx.w.heap[m.blk]? = some (.cells ca e fz) ∧ ca.size = m.cells ∧ VCs E cx (List.replicate xs.length ty) xs cs ∧ Win ca m.base cs ∧
      m.base + cs.length ≤ ca.size ∧ Free ca fz := by
  obtain ⟨_, m, hm⟩ := hn.live b _ (Store.at_some h)
  obtain ⟨blk, h1, h2, h3, h4⟩ := hn.dom b m hm
  rw [Store.at_some h] at h1
  simp only [Option.some.injEq] at h1; subst h1
  obtain ⟨k1, k2, ca, e, fz, cs, k3, k4, k5, k6, k7, k8⟩ := h4
  exact ⟨m, ca, e, fz, cs, hm, k1, k2, k3, k4, k5, k6, k7, k8⟩

def sLoad (E : Env) (T : TypeId) (x : PV) (σ : Store) : Option PV :=
  match x with
  | .ptr b g i p => match Store.at σ b with
    | some (.cells ty g' xs) => if g' = g then (match xs[i]? with | some e => (match getP e p with | some y => if fits E T y then some y else none | none => none) | none => none) else none
    | _ => none
  | .laddr y => if fits E T y then some y else none
  | _ => none

theorem Now.place (O : E.OK) (hn : Now E cx σ) {b g i ty : Nat} {p : List Nat} {xs : List PV} {e : PV} {val : Value} (hv : V E cx (.ptr b g i p) val) (hb : Store.at σ b = some (.cells ty g xs)) (he : xs[i]? = some e) :
    ∃ m ca el fz cs ds, cx.mu b = some m ∧ m.gen = g ∧ m.ty = ty ∧ cx.w.heap[m.blk]? = some (.cells ca el fz) ∧ ca.size = m.cells ∧ VCs E cx (List.replicate xs.length ty) xs cs ∧ Win ca m.base cs ∧
      m.base + cs.length ≤ ca.size ∧ Free ca fz ∧ fits E ty e = true ∧ VC E cx e ds ∧ LW cs (i * E.size ty) ds ∧ val = .pointer (some ⟨m.blk, m.base + i * E.size ty + pathOff E ty p, none⟩) := by
  obtain ⟨m, ca, el, fz, cs, h1, h2, h3, h4, h5, h6, h7, h8, h9⟩ := hn.blk hb
  obtain ⟨_, _, k⟩ := hv.ptr_inv
  obtain ⟨ds, j1, j2, j3⟩ := h6.elem O.toFine he
  have := k m h1 h2
  rw [h3] at this
  exact ⟨m, ca, el, fz, cs, ds, h1, h2, h3, h4, h5, h6, h7, h8, h9, j1, j2, j3, this⟩

theorem load_ok (O : E.OK) (hn : Now E cx σ) {T : TypeId} (hk : E.kn T = true) {x v : PV} {val : Value} (hx : V E cx x val) (h : sLoad E T x σ = some v) :
    ∃ u, (Instr.loadAt T val).run E.P cx.w = .ok u cx.w ∧ V E cx v u := by
  unfold sLoad at h
  split at h
  · rename_i b g i p
    split at h
    · rename_i ty g' xs hb
      split at h
      · rename_i hg; subst hg
        split at h
        · rename_i e he
          split at h
          · rename_i y hy
            split at h
            · rename_i hf
              simp only [Option.some.injEq] at h; subst h
              obtain ⟨m, ca, el, fz, cs, ds, h1, h2, h3, h4, h5, h6, h7, h8, h9, j1, j2, j3, rfl⟩ := hn.place O hx hb he
              obtain ⟨es, U, k1, k2, k3, k4⟩ := VC.getP O.toFine p j2 j1 hy
              have hw := LW.win h7 (j3.trans k2)
              rw [← Nat.add_assoc] at hw
              refine ⟨_, ?_, V_of_VC k1 hf⟩
              simp only [Instr.loadAt, Instr.sureAddr, Sem.run_bind, Sem.run_pure, Result.andThen_ok]
              exact run_loadVar O hk h4 hw (k1.len O.toFine _ hf)
            · simp at h
          · simp at h
        · simp at h
      · simp at h
    · simp at h
  · rename_i y
    split at h
    · rename_i hf
      simp only [Option.some.injEq] at h; subst h
      obtain ⟨k, o, cs, ca, e, fz, rfl, hI, hw, hc, hwin⟩ := hx.laddr_inv
      have hc' : VC E cx y cs := hc
      refine ⟨_, ?_, V_of_VC hc' hf⟩
      simp only [Instr.loadAt, Instr.sureAddr, Sem.run_bind, Sem.run_pure, Result.andThen_ok]
      exact run_loadVar O hk hw hwin (hc'.len O.toFine _ hf)
    · simp at h
  · simp at h

theorem Y_load (O : E.OK) {o : Oper} {T : TypeId} {x : Operand} {fr : Fr} {xv v : PV} (ho : o.op = .load T x) (hx : Fr.eval fr x = some xv) (hk : E.kn T = true) (h : sLoad E T xv σ = some v) : Yld E nid o fr σ v σ :=
  Yld_pure fun cx ρ hn he => by
    obtain ⟨u, h1, h2⟩ := load_ok O hn hk (he x xv hx) h
    exact ⟨u, by simp [execOp, ho, h1], h2⟩

/-- The store with a part of a block turned. -/
def sStore (E : Env) (T : TypeId) (x v : PV) (σ : Store) : Option Store :=
  match x with
  | .ptr b g i p => match Store.at σ b with
    | some (.cells ty g' xs) => if g' = g then (match xs[i]? with | some e => (match setP e p v with
        | some e' => if fits E T v && (typeAt E ty p == some T) then some (σ.set b (some (.cells ty g (xs.set i e')))) else none | none => none) | none => none) else none
    | _ => none
  | _ => none

theorem Win_splice {ca : Array Value} {o p : Nat} {cs ds : List Value} (h : Win ca o cs) (hp : p + ds.length ≤ cs.length) (ho : o + cs.length ≤ ca.size) :
    Win (splice ca.toList (o + p) ds).toArray o (splice cs p ds) := by
  intro j v hv
  have hw : LW ca.toList o cs := fun j v h' => by simpa using h j v h'
  have e := splice_splice (es := ds) hw hp (by simpa using ho)
  rw [← e]
  have hlen : (splice cs p ds).length = cs.length := by simp [splice]; omega
  have := LW.mid (ca.toList.take o) (splice cs p ds) (ca.toList.drop (o + (splice cs p ds).length)) j v hv
  have hl : (ca.toList.take o).length = o := by simp; omega
  rw [hl] at this
  simpa [splice] using this

theorem splice_length {cs ds : List Value} {o : Nat} (h : o + ds.length ≤ cs.length) : (splice cs o ds).length = cs.length := by simp [splice]; omega

theorem store_ok (O : E.OK) (hn : Now E cx σ) {T : TypeId} (hk : E.kn T = true) {x v : PV} {σ' : Store} {val u : Value} (hx : V E cx x val) (hv : V E cx v u) (h : sStore E T x v σ = some σ') :
    ∃ w' cx', (Instr.storeAt T val u).run E.P cx.w = .ok () w' ∧ cx'.w = w' ∧ Now E cx' σ' ∧ Step cx cx' ∧ ∀ b, cx'.A b → cx.A b := by
  unfold sStore at h
  split at h
  · rename_i b g i p
    split at h
    · rename_i ty g' xs hb
      split at h
      · rename_i hg; subst hg
        split at h
        · rename_i e he
          split at h
          · rename_i e' hy
            split at h
            · rename_i hf
              simp only [Bool.and_eq_true, beq_iff_eq] at hf
              obtain ⟨hf, ht⟩ := hf
              simp only [Option.some.injEq] at h; subst h
              obtain ⟨m, ca, el, fz, cs, ds, h1, h2, h3, h4, h5, h6, h7, h8, h9, j1, j2, j3, rfl⟩ := hn.place O hx hb he
              have hvc := VC_of_V hv hf
              have l1 := hvc.len O.toFine _ hf
              have l1' : u.cells.size = E.size T := by simpa using l1
              have l2 := j2.len O.toFine _ j1
              have l3 := pathOff_le O.toFine p ty T ht
              obtain ⟨s1, s2⟩ := VC.setP O.toFine p j2 j1 hy ht hf hvc
              have hi : i < xs.length := by
                rcases Nat.lt_or_ge i xs.length with h' | h'
                · exact h'
                · simp [List.getElem?_eq_none h'] at he
              have hrep : (List.replicate xs.length ty)[i]? = some ty := by simp [List.getElem?_replicate, hi]
              have fl := h6.fit_len O.toFine hrep
              rw [rep_off E ty _ i (by omega)] at fl
              have s3 := h6.set O.toFine i ty e' _ hrep s2 s1
              rw [rep_off E ty _ i (by omega), splice_splice j3 (by omega) (by omega)] at s3
              have hrun := run_storeVar (o := m.base + (i * E.size ty + pathOff E ty p)) O hk h4 h9 (v := u) (ds := u.cells.toList) rfl l1 (hvc.one) (by omega)
              have hblk : m.blk < cx.w.heap.size := by obtain ⟨_, _, h, _⟩ := hn.dom b m h1; exact h
              have hlenS : ((splice ca.toList (m.base + (i * E.size ty + pathOff E ty p)) u.cells.toList).toArray).size = ca.size := by
                simp only [List.size_toArray]; rw [splice_length (by simp; omega)]; simp
              obtain ⟨hn', hs'⟩ := hn.change (m' := m) h1 (w := cx.w.setRow m.blk (splice ca.toList (m.base + (i * E.size ty + pathOff E ty p)) u.cells.toList).toArray) (by simp) (fun k hk _ => setRow_other _ _ _ _ hk) rfl rfl rfl
                (Nat.le_refl _) (fun _ => rfl) (.inl rfl) (by simpa using hblk) (blk := .cells ty g' (xs.set i e')) (fun ext => by
                  refine ⟨h2, h3, _, el, fz, splice cs (i * E.size ty + pathOff E ty p) u.cells.toList, setRow_heap _ _ _ _ _ _ h4, hlenS.trans h5, ?_, Win_splice h7 (by omega) h8, ?_, ?_⟩
                  · rw [List.length_set]; exact s3.ext ext
                  · rw [splice_length (by omega), hlenS]; exact h8
                  · unfold Free at *; rw [hlenS]; exact h9)
              refine ⟨_, _, ?_, rfl, hn', hs', fun _ h => h⟩
              simp only [Instr.storeAt, Instr.sureAddr, Sem.run_bind, Sem.run_pure, Result.andThen_ok]
              rw [Nat.add_assoc]
              exact hrun
            · simp at h
          · simp at h
        · simp at h
      · simp at h
    · simp at h
  · simp at h

theorem Y_store (O : E.OK) {o : Oper} {T : TypeId} {x y : Operand} {fr : Fr} {xv yv : PV} {σ' : Store} (ho : o.op = .store T x y) (hx : Fr.eval fr x = some xv) (hy : Fr.eval fr y = some yv) (hk : E.kn T = true)
    (h : sStore E T xv yv σ = some σ') : Yld E nid o fr σ .undef σ' := fun cx ρ hn he hnid htop => by
  obtain ⟨w', cx', h1, h2, h3, h4, h5⟩ := store_ok O hn hk (he x xv hx) (he y yv hy) h
  exact ⟨.skip, undef, w', cx', by simp [execOp, ho, h1], .inr ⟨rfl, rfl⟩, h2, h3, V_undef _, h4, fun b hb => .inl (h5 b hb)⟩

theorem heap_alloc_old' (w : World) (o : Obj) (k : Nat) (h : k < w.heap.size) : (w.alloc o).heap[k]? = w.heap[k]? := by
  unfold World.alloc
  simp only [Array.getElem?_push, if_neg (Nat.ne_of_lt h)]
theorem heap_alloc_new' (w : World) (o : Obj) : (w.alloc o).heap[w.heap.size]? = some o := by unfold World.alloc; simp

/-- A new block. -/
theorem new_ok (hn : Now E cx σ) {nid : Nat} (hb : ¬ cx.A nid) (htop : cx.top ≤ nid) {T el : TypeId} {xs : List PV} {ca : Array Value} {cs : List Value} (hc : VCs E cx (List.replicate xs.length T) xs cs) (hwin : Win ca 0 cs) (hl : cs.length ≤ ca.size) :
    ∃ cx', cx'.w = cx.w.alloc (.cells ca el) ∧ Now E cx' (Store.new σ nid (.cells T 0 xs)) ∧ Step cx cx' ∧
      cx'.mu nid = some ⟨cx.w.heap.size, 0, 0, T, ca.size⟩ ∧ cx'.A nid ∧ ∀ b, cx'.A b → cx.A b ∨ b = nid := by
  obtain ⟨h1, h2⟩ := hn.alloc hb htop (m := ⟨cx.w.heap.size, 0, 0, T, ca.size⟩) (w := cx.w.alloc (.cells ca el)) (by simp) (fun k hk => heap_alloc_old' _ _ _ hk) rfl rfl rfl (Nat.le_refl _) (by simp)
    (blk := .cells T 0 xs) (fun ext => by
      refine ⟨rfl, rfl, ca, el, (0, 0), cs, heap_alloc_new' _ _, rfl, hc.ext ext, hwin, by simpa using hl, ?_⟩
      exact .inl rfl)
  exact ⟨_, rfl, h1, h2, by simp [Cx.add], .inr rfl, fun _ h => h⟩

theorem Win_self (cs : List Value) : Win cs.toArray 0 cs := fun j v h => by simpa using h

theorem V_newptr {c : Cx} {nid : Nat} {m : MB} (hA : c.A nid) (hm : c.mu nid = some m) (hg : m.gen = 0) (hb : m.base = 0) : V E c (.ptr nid 0 0 []) (.pointer (some ⟨m.blk, 0, none⟩)) :=
  V_one (.ptr _ _ _ _ _ rfl hA (fun m' h => by omega) (fun m' h _ => by rw [hm] at h; simp only [Option.some.injEq] at h; subst h; simp [pathOff, hb])) (by simp)

theorem Y_box (O : E.OK) {o : Oper} {T : TypeId} {x : Operand} {fr : Fr} {xv : PV}  (ho : o.op = .box T x) (hx : Fr.eval fr x = some xv) (hf : fits E T xv = true) :
    Yld E nid o fr σ (.ptr nid 0 0 []) (Store.new σ nid (.cells T 0 [xv])) := fun cx ρ hn he hnid htop => by
  have hv := VC_of_V (he x xv hx) hf
  obtain ⟨cx', h1, h2, h3, h4, h5, h6⟩ := new_ok (el := T) (xs := [xv]) (T := T) (ca := (ρ x).cells) (cs := (ρ x).cells.toList) hn hnid htop (by simpa using VCs.cons hf hv .nil) (fun j v h => by simpa using h) (by simp)
  refine ⟨.value (.pointer (some ⟨cx.w.heap.size, 0, none⟩)), _, _, cx', ?_, .inl rfl, h1, h2, V_newptr h5 h4 rfl rfl, h3, h6⟩
  simp [execOp, ho, Instr.box, newVar, newRow]

theorem Y_alloc (O : E.OK) {o : Oper} {T : TypeId} {fr : Fr}  (ho : o.op = .alloc T) (hk : E.kn T = true) :
    Yld E nid o fr σ (.ptr nid 0 0 []) (Store.new σ nid (.cells T 0 [E.zero T])) := fun cx ρ hn he hnid htop => by
  obtain ⟨i, z, h1, h2, h3, h4⟩ := O.zero T hk
  obtain ⟨hv, hf⟩ := h4 cx
  obtain ⟨cx', k1, k2, k3, k4, k5, k6⟩ := new_ok (el := T) (xs := [E.zero T]) (T := T) (ca := z.cells) (cs := z.cells.toList) hn hnid htop (by simpa using VCs.cons hf hv .nil) (fun j v h => by simpa using h) (by simp)
  refine ⟨.value (.pointer (some ⟨cx.w.heap.size, 0, none⟩)), _, _, cx', ?_, .inl rfl, k1, k2, V_newptr k5 k4 rfl rfl, k3, k6⟩
  simp [execOp, ho, Instr.alloc, newVar, newRow, zeroValue, typeInfo, h1, h2]

def sFieldAddr (E : Env) (T : TypeId) (x : PV) (k : Nat) (σ : Store) : Option PV :=
  match x with
  | .ptr b g i p => match Store.at σ b with
    | some (.cells ty g' xs) => if g' = g ∧ typeAt E ty p = some T ∧ k < (E.lay T).length then some (.ptr b g i (p ++ [k])) else none
    | _ => none
  | .laddr (.agg t fs) => if t = T then (match fs[k]? with | some y => some (.laddr y) | none => none) else none
  | _ => none

theorem pathOff_snoc (E : Env) : ∀ (p : List Nat) (ty T : TypeId) (k : Nat), typeAt E ty p = some T → pathOff E ty (p ++ [k]) = pathOff E ty p + offOf E T k
  | [], ty, T, k, h => by simp [typeAt] at h; subst h; simp [pathOff]
  | j :: p, ty, T, k, h => by
    simp only [typeAt] at h
    split at h
    · split at h
      · rename_i u hu
        simp only [List.cons_append, pathOff, List.getD, hu, Option.getD_some]
        rw [pathOff_snoc E p u T k h]; omega
      · simp at h
    · simp at h

theorem fieldAt_run (O : E.OK) {T : TypeId} {k : Nat} (hk : E.kn T = true) (hs : E.td T = .st) (hl : k < (E.lay T).length) (w : World) (b o : Nat) :
    (Instr.fieldAt T (.pointer (some ⟨b, o, none⟩)) k).run E.P w = .ok (.pointer (some ⟨b, o + offOf E T k, none⟩)) w := by
  have := O.td T hk
  rw [hs] at this
  obtain ⟨fields, h1, h2, h3⟩ := this
  have hkf : k < fields.size := by omega
  obtain ⟨f, hf⟩ : ∃ f, fields[k]? = some f := ⟨_, Array.getElem?_eq_getElem hkf⟩
  obtain ⟨j1, j2, j3, j4⟩ := h3 k f hf
  have : E.size f.type ≠ 0 := by omega
  simp [Instr.fieldAt, run_underlying h1, hf, Instr.sureAddr, fieldPlace, run_size O j3, this, j2, add_lit']

theorem Y_fieldAddr (O : E.OK) {o : Oper} {T : TypeId} {x : Operand} {k : Nat} {fr : Fr} {xv v : PV} (ho : o.op = .fieldAddr T x k) (hx : Fr.eval fr x = some xv) (hk : E.kn T = true) (hs : E.td T = .st)
    (h : sFieldAddr E T xv k σ = some v) : Yld E nid o fr σ v σ := Yld_pure fun cx ρ hn he => by
  have hv := he x xv hx
  unfold sFieldAddr at h
  split at h
  · rename_i b g i p
    split at h
    · rename_i ty g' xs hb
      split at h
      · rename_i hc
        obtain ⟨rfl, ht, hl⟩ := hc
        simp only [Option.some.injEq] at h; subst h
        obtain ⟨m, ca, el, fz, cs, h1, h2, h3, h4, h5, h6, h7, h8, h9⟩ := hn.blk hb
        obtain ⟨hA, hle, hval⟩ := hv.ptr_inv
        have hval' := hval m h1 h2
        rw [h3] at hval'
        refine ⟨.pointer (some ⟨m.blk, m.base + i * E.size ty + pathOff E ty p + offOf E T k, none⟩), ?_, V_one (.ptr _ _ _ _ _ rfl hA hle fun m' hm' _ => ?_) (by simp)⟩
        · simp only [execOp, ho, hval', Sem.run_bind, fieldAt_run O hk hs hl, Result.andThen_ok]; rfl
        rw [h1] at hm'; simp only [Option.some.injEq] at hm'; subst hm'
        rw [h3, pathOff_snoc E p ty T k ht]
        simp [Nat.add_assoc]
      · simp at h
    · simp at h
  · rename_i t fs
    split at h
    · rename_i e; subst e
      split at h
      · rename_i y hy
        simp only [Option.some.injEq] at h; subst h
        obtain ⟨b, o', cs, ca, e, fz, hval, hI, hw, hc, hwin⟩ := hv.laddr_inv
        cases hc with
        | agg _ _ _ hc =>
          obtain ⟨U, ds, k1, k2, k3, k4⟩ := hc.get O.toFine k y hy
          have hl : k < (E.lay t).length := by
            rcases Nat.lt_or_ge k (E.lay t).length with h | h
            · exact h
            · simp [List.getElem?_eq_none h] at k1
          refine ⟨.pointer (some ⟨b, o' + offOf E t k, none⟩), ?_, V_one (.laddr _ _ _ ds ca e fz hI hw k3 (LW.win hwin k4)) (by simp)⟩
          simp only [execOp, ho, hval, Sem.run_bind, fieldAt_run O hk hs hl, Result.andThen_ok]; rfl
      · simp at h
    · simp at h
  · simp at h

def sField (T : TypeId) (x : PV) (k : Nat) : Option PV :=
  match x with
  | .agg t fs => if t = T then fs[k]? else none
  | _ => none

theorem extract_win {cs ds : List Value} {o : Nat} (h : LW cs o ds) (hl : o + ds.length ≤ cs.length) : cs.toArray.extract o (o + ds.length) = ds.toArray := by
  apply Array.ext'
  simp only [List.extract_toArray, List.extract_eq_take_drop]
  apply List.ext_getElem?
  intro j
  by_cases hj : j < ds.length
  · have := h j _ (List.getElem?_eq_getElem hj)
    rw [List.getElem?_take_of_lt (by omega), List.getElem?_drop, this, List.getElem?_eq_getElem hj]
  · rw [List.getElem?_eq_none (by omega : ds.length ≤ j), List.getElem?_eq_none (by simp; omega)]

theorem run_part (O : E.OK) {U : TypeId} (hk : E.kn U = true) {cs ds : List Value} {o : Nat} (h : LW cs o ds) (hl : ds.length = E.size U) (hfit : o + ds.length ≤ cs.length) (w : World) :
    (part U cs.toArray o).run E.P w = .ok (mkv E U ds) w := by
  simp only [part, Sem.run_bind, run_isAgg O hk, Result.andThen_ok]
  by_cases ha : E.agg U = true
  · simp only [ha, if_true, Sem.run_bind, run_size O hk, Result.andThen_ok, ← hl, extract_win h hfit, Sem.run_pure, mkv, mkv0]
  · have ha' : E.agg U = false := by simpa using ha
    have : ds.length = 1 := by rw [hl, O.scalar U ha']
    obtain ⟨v, rfl⟩ : ∃ v, ds = [v] := by
      match ds, this with
      | [v], _ => exact ⟨v, rfl⟩
    have hc := h 0 v (by simp)
    simp only [Nat.add_zero] at hc
    simp [ha', hc, mkv, mkv0]

theorem Y_field (O : E.OK) {o : Oper} {T : TypeId} {x : Operand} {k : Nat} {fr : Fr} {xv v : PV} (ho : o.op = .field T x k) (hx : Fr.eval fr x = some xv) (hk : E.kn T = true) (hs : E.td T = .st)
    (h : sField T xv k = some v) : Yld E nid o fr σ v σ := Yld_pure fun cx ρ hn he => by
  have hv := he x xv hx
  unfold sField at h
  split at h
  · rename_i t fs
    split at h
    · rename_i e; subst e
      obtain ⟨cs, hval, hc⟩ := hv.agg_inv
      cases hc with
      | agg _ _ _ hc =>
        obtain ⟨U, ds, k1, k2, k3, k4⟩ := hc.get O.toFine k v h
        have htd := O.td t hk
        rw [hs] at htd
        obtain ⟨fields, h1, h2, h3⟩ := htd
        have hl : k < (E.lay t).length := by
          rcases Nat.lt_or_ge k (E.lay t).length with h | h
          · exact h
          · simp [List.getElem?_eq_none h] at k1
        obtain ⟨f, hf⟩ : ∃ f, fields[k]? = some f := ⟨_, Array.getElem?_eq_getElem (by omega)⟩
        obtain ⟨j1, j2, j3, j4⟩ := h3 k f hf
        rw [k1] at j1; simp only [Option.some.injEq] at j1; subst j1
        have fl := hc.fit_len O.toFine k1
        have l := k3.len O.toFine _ k2
        refine ⟨_, ?_, V_of_VC k3 k2⟩
        simp only [execOp, ho, Sem.run_bind, Instr.field, run_underlying h1, Result.andThen_ok, hf, hval, asAgg, Sem.run_pure, j2]
        rw [run_part O j3 (by simpa [offOf] using k4) l (by simp only [offOf]; omega)]
        rfl
    · simp at h
  · simp at h

theorem Y_move {o : Oper} {x : Operand} {fr : Fr} {v : PV} (ho : o.op = .move x ∨ o.op = .assign x) (hx : Fr.eval fr x = some v) : Yld E nid o fr σ v σ := Yld_pure fun cx ρ hn he =>
  ⟨ρ x, by rcases ho with ho | ho <;> simp [execOp, ho], he x v hx⟩

theorem Y_pick {o : Oper} {c x y : Operand} {fr : Fr} {b : Bool} {v : PV} (ho : o.op = .pick c x y) (hc : Fr.eval fr c = some (.bool b)) (hx : Fr.eval fr (if b then x else y) = some v) : Yld E nid o fr σ v σ :=
  Yld_pure fun cx ρ hn he => by
    have := V.bool_inv (he c _ hc)
    refine ⟨if b then ρ x else ρ y, by simp [execOp, ho, this, asBool], ?_⟩
    cases b <;> exact he _ _ hx

theorem VL.nth {c : Cx} : ∀ {xs : List PV} {vs : List Value}, VL E c xs vs → ∀ (k : Nat) (x : PV), xs[k]? = some x → ∃ v, vs[k]? = some v ∧ V E c x v
  | _, _, .nil, k, x, h => by simp at h
  | _, _, .undef (v := v) hs, k, x, h => by
    cases k with
    | zero => simp at h; subst h; exact ⟨v, by simp, V_undef _⟩
    | succ k => obtain ⟨u, h1, h2⟩ := hs.nth k x (by simpa using h); exact ⟨u, by simpa using h1, h2⟩
  | _, _, .one (v := v) h1 hn hv hs, k, x, h => by
    cases k with
    | zero => simp at h; subst h; exact ⟨v, by simp, .one h1 hn hv .nil⟩
    | succ k => obtain ⟨u, h1, h2⟩ := hs.nth k x (by simpa using h); exact ⟨u, by simpa using h1, h2⟩
  | _, _, .agg (cs := cs) hv hs, k, x, h => by
    cases k with
    | zero => simp at h; subst h; exact ⟨.agg cs.toArray, by simp, .agg hv .nil⟩
    | succ k => obtain ⟨u, h1, h2⟩ := hs.nth k x (by simpa using h); exact ⟨u, by simpa using h1, h2⟩
  | _, _, .tup (us := us) hv hs, k, x, h => by
    cases k with
    | zero => simp at h; subst h; exact ⟨.tuple us, by simp, .tup hv .nil⟩
    | succ k => obtain ⟨u, h1, h2⟩ := hs.nth k x (by simpa using h); exact ⟨u, by simpa using h1, h2⟩

theorem Y_extract {o : Oper} {x : Operand} {k : Nat} {fr : Fr} {xs : List PV} {v : PV} (ho : o.op = .extract x k) (hx : Fr.eval fr x = some (.tup xs)) (h : xs[k]? = some v) : Yld E nid o fr σ v σ :=
  Yld_pure fun cx ρ hn he => by
    obtain ⟨us, hval, hl⟩ := (he x _ hx).tup_inv
    obtain ⟨u, h1, h2⟩ := hl.nth k v h
    exact ⟨u, by simp [execOp, ho, hval, Instr.extract, show us[k]? = some u by simpa using h1], h2⟩

end
end Go.Proofs.Ythllcknfidnfaaa
