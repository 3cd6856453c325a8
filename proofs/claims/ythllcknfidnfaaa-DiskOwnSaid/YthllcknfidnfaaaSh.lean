/- Operations, going on: indexes, slices, numbers, lengths, append. -/
import Derived.Test.YthllcknfidnfaaaSg
set_option linter.unusedVariables false
set_option linter.unusedSimpArgs false
namespace Go.Proofs.Ythllcknfidnfaaa
open Go

section
variable {E : Env} {cx : Cx} {σ : Store} {nid : Nat}

theorem VC.unpure {c : Cx} {x : PV} {cs : List Value} (h : VC E c.pure x cs) : VC E c x cs := h.ext ⟨fun _ h => h, fun _ _ => rfl, fun _ h => h.elim, fun _ h => h.elim⟩
theorem VCs.unpure {c : Cx} {Ts : List TypeId} {xs : List PV} {cs : List Value} (h : VCs E c.pure Ts xs cs) : VCs E c Ts xs cs := h.ext ⟨fun _ h => h, fun _ _ => rfl, fun _ h => h.elim, fun _ h => h.elim⟩

theorem getElem?_lt {α : Type} {l : List α} {i : Nat} {x : α} (h : l[i]? = some x) : i < l.length := by
  rcases Nat.lt_or_ge i l.length with h' | h'
  · exact h'
  · simp [List.getElem?_eq_none h'] at h

def sIndexAddr (E : Env) (T : TypeId) (x : PV) (i : Int) (σ : Store) : Option PV :=
  match E.td T, x with
  | .slice e, .lit xs => if 0 ≤ i then (match xs[i.toNat]? with | some y => if fits E e y then some (.laddr y) else none | none => none) else none
  | .slice e, .ref b g off len => if 0 ≤ i ∧ i < len then (match Store.at σ b with | some (.cells ty g' xs) => if g' = g ∧ ty = e ∧ off + len ≤ xs.length then some (.ptr b g (off + i.toNat) []) else none | _ => none) else none
  | .arr n e, .ptr b g j p => if 0 ≤ i ∧ i < n then (match Store.at σ b with | some (.cells ty g' xs) => if g' = g ∧ typeAt E ty p = some T then some (.ptr b g j (p ++ [i.toNat])) else none | _ => none) else none
  | _, _ => none

theorem indexAt_slice (O : E.OK) {T e : TypeId} (hs : E.td T = .slice e) (hk : E.kn T = true) {b o len cap : Nat} {k : IntKind} {i : Int} (h0 : 0 ≤ i) (h1 : i < len) (w : World) :
    (Instr.indexAt T (.slice (some ⟨b, o, none⟩) len cap) (.int k i)).run E.P w = .ok (.pointer (some ⟨b, o + i.toNat * E.size e, none⟩)) w := by
  have := O.td T hk
  rw [hs] at this
  obtain ⟨hu, hke, hpos⟩ := this
  simp only [Instr.indexAt, Sem.run_bind, asIntOf, Sem.run_pure, Result.andThen_ok, run_underlying hu]
  simp only [h0, h1, and_self, if_true, Sem.run_bind, run_size O hke, Result.andThen_ok, Sem.run_pure, add_lit']

theorem Y_indexAddr (O : E.OK) {o : Oper} {T : TypeId} {x ix : Operand} {fr : Fr} {xv v : PV} {k : IntKind} {i : Int} (ho : o.op = .indexAddr T x ix) (hx : Fr.eval fr x = some xv) (hi : Fr.eval fr ix = some (.int k i)) (hk : E.kn T = true)
    (h : sIndexAddr E T xv i σ = some v) : Yld E nid o fr σ v σ := Yld_pure fun cx ρ hn he => by
  have hv := he x xv hx
  have hiv := V.int_inv (he ix _ hi)
  unfold sIndexAddr at h
  split at h
  · rename_i e xs hs
    split at h
    · rename_i h0
      split at h
      · rename_i y hy
        split at h
        · rename_i hf
          simp only [Option.some.injEq] at h; subst h
          have hlt := getElem?_lt hy
          rcases hv.lit_inv with ⟨rfl, _⟩ | ⟨U, b, o', cap, cs, ca, el, fz, hval, hI, hw, hc, hwin, hcap⟩
          · simp at hlt
          · obtain ⟨ds, j1, j2, j3⟩ := hc.elem O.toFine hy
            have l1 := j2.len O.toFine _ j1
            have l2 := j2.len O.toFine _ hf
            have h1 : i < (xs.length : Int) := by omega
            refine ⟨.pointer (some ⟨b, o' + i.toNat * E.size e, none⟩), ?_, V_one (.laddr y b _ ds ca el fz hI hw (j2.ext ⟨fun _ h => h, fun _ _ => rfl, fun _ h => h.elim, fun _ h => h.elim⟩) ?_) (by simp)⟩
            · simp only [execOp, ho, hval, hiv, Sem.run_bind, indexAt_slice O hs hk h0 h1, Result.andThen_ok]; rfl
            · rw [← l2, l1]; exact LW.win hwin j3
        · simp at h
      · simp at h
    · simp at h
  · rename_i e b g off len hs
    split at h
    · rename_i h0
      obtain ⟨h0, h1⟩ := h0
      split at h
      · rename_i ty g' xs hb
        split at h
        · rename_i hc
          obtain ⟨rfl, rfl, hl⟩ := hc
          simp only [Option.some.injEq] at h; subst h
          obtain ⟨m, ca, el, fz, cs, j1, j2, j3, j4, j5, j6, j7, j8, j9⟩ := hn.blk hb
          obtain ⟨hA, hle, hr⟩ := hv.ref_inv
          obtain ⟨a, cap, hval, hcap, hh⟩ := hr m j1 j2
          rcases hh with rfl | ⟨rfl, hfit⟩
          · omega
          · refine ⟨.pointer (some ⟨m.blk, m.base + off * E.size m.ty + i.toNat * E.size ty, none⟩), ?_, V_one (.ptr _ _ _ _ _ rfl hA hle fun m' hm' _ => ?_) (by simp)⟩
            · simp only [execOp, ho, hval, hiv, Sem.run_bind, indexAt_slice O hs hk h0 h1, Result.andThen_ok]; rfl
            · rw [j1] at hm'; simp only [Option.some.injEq] at hm'; subst hm'
              rw [j3]; simp [pathOff, Nat.add_mul, Nat.add_assoc]
        · simp at h
      · simp at h
    · simp at h
  · rename_i n e b g j p hs
    split at h
    · rename_i h0
      obtain ⟨h0, h1⟩ := h0
      split at h
      · rename_i ty g' xs hb
        split at h
        · rename_i hc
          obtain ⟨rfl, ht⟩ := hc
          simp only [Option.some.injEq] at h; subst h
          have htd := O.td T hk
          rw [hs] at htd
          obtain ⟨hu, hlay, hke, hpos⟩ := htd
          obtain ⟨m, ca, el, fz, cs, j1, j2, j3, j4, j5, j6, j7, j8, j9⟩ := hn.blk hb
          obtain ⟨hA, hle, hval⟩ := hv.ptr_inv
          have hval' := hval m j1 j2
          have hoff : offOf E T i.toNat = i.toNat * E.size e := by
            rw [offOf, hlay]; exact rep_off E e n _ (by omega)
          refine ⟨.pointer (some ⟨m.blk, m.base + j * E.size m.ty + pathOff E m.ty p + i.toNat * E.size e, none⟩), ?_, V_one (.ptr _ _ _ _ _ rfl hA hle fun m' hm' _ => ?_) (by simp)⟩
          · simp only [execOp, ho, hval', hiv, Sem.run_bind, Instr.indexAt, asIntOf, Sem.run_pure, Result.andThen_ok, run_underlying hu, Instr.sureAddr, h0, h1, and_self, if_true, run_size O hke, add_lit']
          · rw [j1] at hm'; simp only [Option.some.injEq] at hm'; subst hm'
            rw [j3, pathOff_snoc E p ty T _ ht, hoff]; simp [Nat.add_assoc]
        · simp at h
      · simp at h
    · simp at h
  · simp at h

/-- s[i] of a text. -/
theorem Y_index (O : E.OK) {o : Oper} {T : TypeId} {x ix : Operand} {fr : Fr} {s : ByteArray} {k : IntKind} {i : Int} {b : UInt8} (ho : o.op = .index T x ix) (hx : Fr.eval fr x = some (.str s)) (hi : Fr.eval fr ix = some (.int k i)) (hk : E.kn T = true)
    (hs : E.td T = .str) (h0 : 0 ≤ i) (hb : s[i.toNat]? = some b) : Yld E nid o fr σ (.int .u8 b.toNat) σ := Yld_pure fun cx ρ hn he => by
  have hv := V.str_inv (he x _ hx)
  have hiv := V.int_inv (he ix _ hi)
  have htd := O.td T hk
  rw [hs] at htd
  refine ⟨.int .u8 b.toNat, ?_, V_one (.int _ _) (by simp)⟩
  simp [execOp, ho, hv, hiv, Instr.index, asIntOf, run_underlying (show E.P.underlying T = some .string from htd), h0, hb]

/-- A check that a pointer is one. -/
def sNilCheck (x : PV) (σ : Store) : Bool :=
  match x with
  | .ptr b g _ _ => match Store.at σ b with | some (.cells _ g' _) => g' == g | _ => false
  | .laddr _ => true
  | _ => false

theorem Y_nilCheck {o : Oper} {x : Operand} {fr : Fr} {v : PV} (ho : o.op = .nilCheck x) (hx : Fr.eval fr x = some v) (h : sNilCheck v σ = true) : Yld E nid o fr σ v σ := Yld_pure fun cx ρ hn he => by
  have hv := he x v hx
  refine ⟨ρ x, ?_, hv⟩
  unfold sNilCheck at h
  split at h
  · split at h
    · rename_i ty g' xs hb
      simp only [beq_iff_eq] at h; subst h
      obtain ⟨m, ca, el, fz, cs, j1, j2, _⟩ := hn.blk hb
      obtain ⟨_, _, hval⟩ := hv.ptr_inv
      simp [execOp, ho, hval m j1 j2]
    · simp at h
  · obtain ⟨k, o', cs, ca, e, fz, hval, _⟩ := hv.laddr_inv
    simp [execOp, ho, hval]
  · simp at h

/-- Two numbers. -/
def sInt (op : BinOp) (k : IntKind) (a b : Int) : Option PV :=
  match op with
  | .add => some (.int k (k.wrap (a + b)))
  | .sub => some (.int k (k.wrap (a - b)))
  | .mul => some (.int k (k.wrap (a * b)))
  | .quo => if b = 0 then none else some (.int k (k.wrap (a.tdiv b)))
  | .rem => if b = 0 then none else some (.int k (a.tmod b))
  | .and | .or | .xor | .andNot => some (.int k (bits op k a b))
  | .eql => some (.bool (a == b))
  | .neq => some (.bool (a != b))
  | .lss => some (.bool (a < b))
  | .leq => some (.bool (a ≤ b))
  | .gtr => some (.bool (a > b))
  | .geq => some (.bool (a ≥ b))
  | _ => none

def sBin (E : Env) (op : BinOp) (T : TypeId) (x y : PV) : Option PV :=
  match x, y with
  | .int k a, .int k' b => match op with
    | .shl => if 0 ≤ b then some (.int k (k.wrap (a * 2 ^ (min b.toNat k.bits)))) else none
    | .shr => if 0 ≤ b then some (.int k (a.fdiv (2 ^ (min b.toNat k.bits)))) else none
    | _ => if k = k' then sInt op k a b else none
  | .str a, .str b => match op with
    | .add => if a.size + b.size ≤ 9223372036854775807 then some (.str (a ++ b)) else none
    | .eql => some (.bool (a.toList == b.toList))
    | .neq => some (.bool !(a.toList == b.toList))
    | .lss => some (.bool (Op.bytesLess a.toList b.toList))
    | .leq => some (.bool (Op.bytesLess a.toList b.toList || a.toList == b.toList))
    | .gtr => some (.bool !(Op.bytesLess a.toList b.toList || a.toList == b.toList))
    | .geq => some (.bool !(Op.bytesLess a.toList b.toList))
    | _ => none
  | .bool a, .bool b => match E.td T, op with
    | .bool, .eql => some (.bool (a == b))
    | .bool, .neq => some (.bool !(a == b))
    | _, _ => none
  | _, _ => none

theorem eqGuard_int (P : Program) (op : BinOp) (T : TypeId) (x y : Operand) (k k' : IntKind) (a b : Int) (w : World) : (eqGuard op T x y (.int k a) (.int k' b)).run P w = .ok () w := by
  unfold eqGuard; cases op <;> simp
theorem eqGuard_str (P : Program) (op : BinOp) (T : TypeId) (x y : Operand) (a b : ByteArray) (w : World) : (eqGuard op T x y (.string a) (.string b)).run P w = .ok () w := by
  unfold eqGuard; cases op <;> simp
theorem eqGuard_bool (P : Program) (op : BinOp) (T : TypeId) (x y : Operand) (a b : Bool) (w : World) : (eqGuard op T x y (.bool a) (.bool b)).run P w = .ok () w := by
  unfold eqGuard; cases op <;> simp

theorem equal_bool (O : E.OK) {T : TypeId} (hk : E.kn T = true) (htd : E.td T = .bool) (a b : Bool) (w : World) : (Op.equal T (.bool a) (.bool b)).run E.P w = .ok (a == b) w := by
  have hu := O.td T hk
  rw [htd] at hu
  have hu : E.P.underlying T = some .bool := hu
  have : ∀ d, (Op.equalIn (d + 1) T (.bool a) (.bool b)).run E.P w = .ok (a == b) w := fun d => by
    simp only [Op.equalIn, Sem.run_bind, run_underlying hu, Result.andThen_ok, Sem.run_pure]
  exact this 9999

theorem Y_bin (O : E.OK) {o : Oper} {op : BinOp} {T yT : TypeId} {x y : Operand} {fr : Fr} {xv yv v : PV} (ho : o.op = .binOp op T x y yT) (hx : Fr.eval fr x = some xv) (hy : Fr.eval fr y = some yv) (hk : E.kn T = true)
    (h : sBin E op T xv yv = some v) : Yld E nid o fr σ v σ := Yld_pure fun cx ρ hn he => by
  have hxv := he x xv hx
  have hyv := he y yv hy
  unfold sBin at h
  split at h
  · rename_i k a k' b
    have e1 := V.int_inv hxv
    have e2 := V.int_inv hyv
    split at h
    · split at h
      · rename_i hb
        simp only [Option.some.injEq] at h; subst h
        refine ⟨_, ?_, V_one (.int _ _) (by simp)⟩
        simp only [execOp, ho, e1, e2, Sem.run_bind, eqGuard_int, Result.andThen_ok, binOp, Op.shift, if_neg (by omega : ¬ b < 0), Sem.run_pure]
      · simp at h
    · split at h
      · rename_i hb
        simp only [Option.some.injEq] at h; subst h
        refine ⟨_, ?_, V_one (.int _ _) (by simp)⟩
        simp only [execOp, ho, e1, e2, Sem.run_bind, eqGuard_int, Result.andThen_ok, binOp, Op.shift, if_neg (by omega : ¬ b < 0), Sem.run_pure]
      · simp at h
    · rename_i hns hnr
      split at h
      · rename_i hkk; subst hkk
        unfold sInt at h
        have hb : ∀ r : Value, (binOp op T (.int k a) (.int k b)).run E.P cx.w = .ok r cx.w → (execOp ρ o).run E.P cx.w = .ok (.value r) cx.w := fun r hr => by
          simp only [execOp, ho, e1, e2, Sem.run_bind, eqGuard_int, Result.andThen_ok, hr, Sem.run_pure]
        split at h <;> (try split at h) <;> simp only [Option.some.injEq, reduceCtorEq] at h <;> subst h <;> refine ⟨_, hb _ ?_, V_one (by constructor) (by simp)⟩
        all_goals first
          | (simp [binOp, Op.intArith]; done)
          | (simp [binOp, Op.intDiv, *]; done)
          | (simp [binOp, Op.intCmp]; done)
          | (simp [binOp, Op.intBits, bits]; done)
          | rfl
      · simp at h
  · rename_i a b
    have e1 := V.str_inv hxv
    have e2 := V.str_inv hyv
    have hb : ∀ r : Value, (Op.stringOp op a b).run E.P cx.w = .ok r cx.w → (execOp ρ o).run E.P cx.w = .ok (.value r) cx.w := fun r hr => by
      have : binOp op T (.string a) (.string b) = Op.stringOp op a b := by cases op <;> rfl
      simp only [execOp, ho, e1, e2, Sem.run_bind, eqGuard_str, Result.andThen_ok, this, hr, Sem.run_pure]
    split at h <;> (try split at h) <;> simp only [Option.some.injEq, reduceCtorEq] at h <;> subst h <;> refine ⟨_, hb _ ?_, V_one (by constructor) (by simp)⟩
    all_goals simp only [Op.stringOp, Sem.run_pure]
    · rename_i hs
      have : ¬ ((a.size + b.size : Nat) : Int) > IntKind.i64.max := by simp [IntKind.max, IntKind.signed, IntKind.bits]; omega
      simp only [this, if_false]; rfl
  · rename_i a b
    have e1 := V.bool_inv hxv
    have e2 := V.bool_inv hyv
    split at h
    · rename_i htd
      simp only [Option.some.injEq] at h; subst h
      refine ⟨_, ?_, V_one (.bool _) (by simp)⟩
      simp only [execOp, ho, e1, e2, Sem.run_bind, eqGuard_bool, Result.andThen_ok, binOp, equal_bool O hk htd, Sem.run_pure]
    · rename_i htd
      simp only [Option.some.injEq] at h; subst h
      refine ⟨_, ?_, V_one (.bool _) (by simp)⟩
      simp only [execOp, ho, e1, e2, Sem.run_bind, eqGuard_bool, Result.andThen_ok, binOp, equal_bool O hk htd, Sem.run_pure]
    · simp at h
  · simp at h

def sUn (op : UnOp) (x : PV) : Option PV :=
  match op, x with
  | .neg, .int k n => some (.int k (k.wrap (0 - n)))
  | .xor, .int k n => some (.int k (bits .xor k (if k.signed then -1 else k.max) n))
  | .not, .bool b => some (.bool !b)
  | _, _ => none

theorem Y_un {o : Oper} {op : UnOp} {T : TypeId} {x : Operand} {fr : Fr} {xv v : PV} (ho : o.op = .unOp op T x) (hx : Fr.eval fr x = some xv) (h : sUn op xv = some v) : Yld E nid o fr σ v σ := Yld_pure fun cx ρ hn he => by
  have hxv := he x xv hx
  unfold sUn at h
  split at h <;> simp only [Option.some.injEq, reduceCtorEq] at h <;> subst h
  · have e1 := V.int_inv hxv
    exact ⟨_, by simp [execOp, ho, e1, Op.unary, Op.intArith], V_one (.int _ _) (by simp)⟩
  · have e1 := V.int_inv hxv
    exact ⟨_, by simp [execOp, ho, e1, Op.unary, Op.intBits, bits], V_one (.int _ _) (by simp)⟩
  · have e1 := V.bool_inv hxv
    exact ⟨_, by simp [execOp, ho, e1, Op.unary], V_one (.bool _) (by simp)⟩

theorem Y_convInt (O : E.OK) {o : Oper} {T U : TypeId} {x : Operand} {fr : Fr} {j k : IntKind} {n : Int} (ho : o.op = .convert T U x) (hx : Fr.eval fr x = some (.int j n)) (hkT : E.kn T = true) (hkU : E.kn U = true) (hU : E.td U = .int k) :
    Yld E nid o fr σ (.int k (k.wrap n)) σ := Yld_pure fun cx ρ hn he => by
  have e1 := V.int_inv (he x _ hx)
  obtain ⟨d, hd, _⟩ := O.und T hkT
  have hu := O.td U hkU
  rw [hU] at hu
  exact ⟨_, by simp [execOp, ho, e1, convert, run_underlying hd, run_underlying (show E.P.underlying U = some (.int k) from hu), Conv.intToInt], V_one (.int _ _) (by simp)⟩

theorem Y_makeFunc {o : Oper} {f : Fn} {first cap : Array Operand} {fr : Fr} {xs ys : List PV} (ho : o.op = .makeFunc f first cap)
    (h1 : ∀ (c : Cx) (ρ : Operand → Value), Ev E c fr ρ → VL E c xs (first.map ρ).toList) (h2 : ∀ (c : Cx) (ρ : Operand → Value), Ev E c fr ρ → VL E c ys (cap.map ρ).toList) : Yld E nid o fr σ (.fn f xs ys) σ :=
  Yld_pure fun cx ρ hn he => ⟨.func f (first.map ρ) (cap.map ρ), by simp [execOp, ho, Instr.makeFunc], V_one (.fn _ _ _ _ _ (h1 cx ρ he) (h2 cx ρ he)) (by simp)⟩

end
end Go.Proofs.Ythllcknfidnfaaa
