/- Operands; the plain operations and their soundness. -/
import Derived.Test.YthllcknfidnfaaaSd
set_option linter.unusedVariables false
set_option linter.unusedSimpArgs false
namespace Go.Proofs.Ythllcknfidnfaaa
open Go

def mkv0 (E : Env) (T : TypeId) (cs : List Value) : Value := if E.agg T then .agg cs.toArray else cs.headD undef

def TDOK (E : Env) (T : TypeId) : TD → Prop
  | .bool => E.P.underlying T = some .bool
  | .int k => E.P.underlying T = some (.int k)
  | .str => E.P.underlying T = some .string
  | .ptr e => E.P.underlying T = some (.pointer e)
  | .slice e => E.P.underlying T = some (.slice e) ∧ E.kn e = true ∧ 0 < E.size e
  | .arr n e => E.P.underlying T = some (.array n e) ∧ E.lay T = List.replicate n e ∧ E.kn e = true ∧ 0 < E.size e
  | .map k e => E.P.underlying T = some (.map k e) ∧ E.kn k = true ∧ E.kn e = true
  | .st => ∃ fields, E.P.underlying T = some (.struct fields) ∧ fields.size = (E.lay T).length ∧
      ∀ k f, fields[k]? = some f → (E.lay T)[k]? = some f.type ∧ f.offset = offOf E T k ∧ E.kn f.type = true ∧ 0 < E.size f.type
  | .fn => ∃ ps rs v, E.P.underlying T = some (.func ps rs v)
  | .ifc => ∃ ms, E.P.underlying T = some (.interface ms)
  | .other => True

/-- What the program's table of types must say. -/
structure Env.OK (E : Env) : Prop extends E.Fine where
  info : ∀ T, E.kn T = true → ∃ i, E.P.info? T = some i ∧ i.size = E.size T ∧ i.bytes = E.bytes T
  und : ∀ T, E.kn T = true → ∃ d, E.P.underlying T = some d ∧ (E.agg T = match d with | .struct _ | .array _ _ => true | _ => false)
  td : ∀ T, E.kn T = true → TDOK E T (E.td T)
  zero : ∀ T, E.kn T = true → ∃ i z, E.P.info? T = some i ∧ i.zero = some z ∧ z = mkv0 E T z.cells.toList ∧ ∀ c, VC E c (E.zero T) z.cells.toList ∧ fits E T (E.zero T) = true
  fn : ∀ f, E.fk f = true → ∃ g, E.P.funcs[f]? = some g ∧ (g.name == "runtime.NumGoroutine") = false ∧ g.body.isNone = false

theorem V.int_inv {E : Env} {c : Cx} {k : IntKind} {n : Int} {v : Value} (h : V E c (.int k n) v) : v = .int k n := by
  cases h with | one h1 hn h hs => cases h; rfl
theorem V.str_inv {E : Env} {c : Cx} {s : ByteArray} {v : Value} (h : V E c (.str s) v) : v = .string s := by
  cases h with | one h1 hn h hs => cases h; rfl
theorem V.nilp_inv {E : Env} {c : Cx} {v : Value} (h : V E c .nilp v) : v = .pointer none := by
  cases h with | one h1 hn h hs => cases h; rfl
theorem V.agg_inv {E : Env} {c : Cx} {t : TypeId} {fs : List PV} {v : Value} (h : V E c (.agg t fs) v) : ∃ cs, v = .agg cs.toArray ∧ VC E c (.agg t fs) cs := by
  cases h with
  | one h1 hn h hs => exact absurd rfl (hn _ _)
  | agg h hs => exact ⟨_, rfl, h⟩
theorem V.ptr_inv {E : Env} {c : Cx} {b g i : Nat} {p : List Nat} {v : Value} (h : V E c (.ptr b g i p) v) :
    c.A b ∧ (∀ m, c.mu b = some m → g ≤ m.gen) ∧ ∀ m, c.mu b = some m → m.gen = g → v = .pointer (some ⟨m.blk, m.base + i * E.size m.ty + pathOff E m.ty p, none⟩) := by
  cases h with | one h1 hn h hs => cases h with | ptr _ _ _ _ _ _ hb hle h => exact ⟨hb, hle, h⟩
theorem V.laddr_inv {E : Env} {c : Cx} {x : PV} {v : Value} (h : V E c (.laddr x) v) :
    ∃ k o cs ca e fz, v = .pointer (some ⟨k, o, none⟩) ∧ c.I k ∧ c.w.heap[k]? = some (.cells ca e fz) ∧ VC E c x cs ∧ Win ca o cs := by
  cases h with | one h1 hn h hs => cases h with | laddr _ k o cs ca e fz hI hw hx hwin => exact ⟨k, o, cs, ca, e, fz, rfl, hI, hw, hx, hwin⟩
theorem V.ref_inv {E : Env} {c : Cx} {b g off len : Nat} {v : Value} (h : V E c (.ref b g off len) v) :
    c.A b ∧ (∀ m, c.mu b = some m → g ≤ m.gen) ∧ ∀ m, c.mu b = some m → m.gen = g → ∃ (a : Option Addr) (cap : Nat), v = .slice a len cap ∧ len ≤ cap ∧
        (cap = 0 ∨ (a = some ⟨m.blk, m.base + off * E.size m.ty, none⟩ ∧ m.base + (off + cap) * E.size m.ty ≤ m.cells)) := by
  cases h with | one h1 hn h hs => cases h with | ref _ _ _ _ _ _ hb hle h => exact ⟨hb, hle, h⟩
theorem V.nils_inv {E : Env} {c : Cx} {v : Value} (h : V E c .nils v) : ∃ a, v = .slice a 0 0 := by
  cases h with | one h1 hn h hs => cases h with | nils a => exact ⟨a, rfl⟩
theorem V.lit_inv {E : Env} {c : Cx} {xs : List PV} {v : Value} (h : V E c (.lit xs) v) :
    (xs = [] ∧ ∃ a n, v = .slice a 0 n) ∨ ∃ T k o cap cs ca e fz, v = .slice (some ⟨k, o, none⟩) xs.length cap ∧ c.I k ∧ c.w.heap[k]? = some (.cells ca e fz) ∧
      VCs E c.pure (List.replicate xs.length T) xs cs ∧ Win ca o cs ∧ xs.length ≤ cap := by
  cases h with | one h1 hn h hs => cases h with
    | lit0 a n => exact .inl ⟨rfl, a, n, rfl⟩
    | lit _ T k o cap cs ca e fz hI hw hx hwin hcap => exact .inr ⟨T, k, o, cap, cs, ca, e, fz, rfl, hI, hw, hx, hwin, hcap⟩
theorem V.tup_inv {E : Env} {c : Cx} {xs : List PV} {v : Value} (h : V E c (.tup xs) v) : ∃ us, v = .tuple us ∧ VL E c xs us.toList := by
  cases h with
  | one h1 hn h hs => cases h
  | tup h hs => exact ⟨_, rfl, h⟩

theorem V_undef {E : Env} {c : Cx} (v : Value) : V E c .undef v := .undef .nil
theorem V_one {E : Env} {c : Cx} {x : PV} {v : Value} (h : VC E c x [v]) (hn : ∀ t fs, x ≠ .agg t fs) : V E c x v := .one (h.one v (by simp)) hn h .nil
theorem V_agg {E : Env} {c : Cx} {t : TypeId} {fs : List PV} {cs : List Value} (h : VC E c (.agg t fs) cs) : V E c (.agg t fs) (.agg cs.toArray) := .agg h .nil

/-- The value that some cells make, of a type. -/
abbrev mkv := mkv0

theorem V_of_VC {E : Env} {c : Cx} {x : PV} {cs : List Value} {T : TypeId} (h : VC E c x cs) (hf : fits E T x = true) : V E c x (mkv E T cs) := by
  by_cases hx : ∃ t fs, x = .agg t fs
  · obtain ⟨t, fs, rfl⟩ := hx
    obtain ⟨rfl, ha⟩ := fits_agg hf
    simp only [mkv, mkv0, ha, if_true]
    exact V_agg h
  · have hn : ∀ t fs, x ≠ .agg t fs := fun t fs e => hx ⟨t, fs, e⟩
    obtain ⟨v, rfl⟩ := h.scalar hn
    simp only [mkv, mkv0, fits_scalar hf hn, Bool.false_eq_true, if_false, List.headD_cons]
    exact V_one h hn

theorem VC_of_V {E : Env} {c : Cx} {x : PV} {v : Value} {T : TypeId} (h : V E c x v) (hf : fits E T x = true) : VC E c x v.cells.toList := by
  cases h with
  | undef hs => simp [fits] at hf
  | one h1 hn h hs =>
    have : v.cells.toList = [v] := by cases v <;> first | rfl | simp [Value.oneCell'] at h1
    rw [this]; exact h
  | agg h hs => simpa [Value.cells] using h
  | tup h hs => simp [fits] at hf

/-- Operands, by a frame. -/
def ofConst : Value → Option PV
  | .bool b => some (.bool b)
  | .int k n => some (.int k n)
  | .string s => some (.str s)
  | .pointer none => some .nilp
  | .slice none 0 0 => some .nils
  | .map none => some .nilm
  | .nilFunc => some .nilf
  | .nilIface => some .nili
  | .tuple ⟨[]⟩ => some (.tup [])
  | _ => none

def Fr.eval (fr : Fr) : Operand → Option PV
  | .tmp t => Fr.get fr t
  | .const v => ofConst v
  | .func f => some (.fn (.func f) [] [])
  | .global _ => none

theorem V_ofConst {E : Env} {c : Cx} {v : Value} {x : PV} (h : ofConst v = some x) : V E c x v := by
  unfold ofConst at h
  split at h <;> simp only [Option.some.injEq, reduceCtorEq] at h <;> subst h <;> first
    | exact V_one (by constructor) (by simp)
    | exact .tup .nil .nil

/-- Operands as the machine has them are as the frame says. -/
def Ev (E : Env) (c : Cx) (fr : Fr) (ρ : Operand → Value) : Prop := ∀ (x : Operand) (v : PV), Fr.eval fr x = some v → V E c v (ρ x)

theorem FR.ev {E : Env} {c : Cx} {N : Nat} {fr : Fr} {a : Act} (h : FR E c N fr a.tmps) : Ev E c fr a.eval := fun x v hx => by
  cases x with
  | tmp t => exact (h.2 t v hx).2
  | const u => exact V_ofConst hx
  | func f =>
    simp only [Fr.eval, Option.some.injEq] at hx; subst hx
    exact V_one (.fn _ _ _ _ _ .nil .nil) (by simp)
  | global g => simp [Fr.eval] at hx

/-- What an operation yields, and leaves. -/
def Yld (E : Env) (nid : Nat) (o : Oper) (fr : Fr) (σ : Store) (v : PV) (σ' : Store) : Prop :=
  ∀ (cx : Cx) (ρ : Operand → Value), Now E cx σ → Ev E cx fr ρ → ¬ cx.A nid → cx.top ≤ nid → ∃ n val w' cx', (execOp ρ o).run E.P cx.w = .ok n w' ∧ (n = .value val ∨ (n = .skip ∧ val = undef)) ∧ cx'.w = w' ∧
    Now E cx' σ' ∧ V E cx' v val ∧ Step cx cx' ∧ ∀ b, cx'.A b → cx.A b ∨ b = nid

/-- An operation, from a frame and a store on. -/
def OpW (E : Env) (N z : Nat) (o : Oper) (Q : Post) (K : Fr → Store → Prop) (fr : Fr) (σ : Store) : Prop :=
  ∀ (cx : Cx) (a : Act), cx.top ≤ z → Now E cx σ → FR E cx N fr a.tmps → o.wp E.P a cx.w
    (fun a' w' => ∃ fr' σ' cx', cx'.w = w' ∧ K fr' σ' ∧ Now E cx' σ' ∧ FR E cx' N fr' a'.tmps ∧ a'.defers = a.defers ∧ Step cx cx') (Lift E N z a.defers cx Q)

theorem FR.put {E : Env} {c : Cx} {N : Nat} {fr : Fr} {a : Act} {d : Option Tmp} {x : PV} {v : Value} (h : FR E c N fr a.tmps) (hv : V E c x v) (hd : ∀ t, d = some t → t < N) :
    FR E c N (Fr.put fr d x) (a.put d v).tmps := by
  cases d with
  | none => exact h
  | some d =>
    have hd := hd d rfl
    refine ⟨by simp [Act.put, h.1], fun t y ht => ?_⟩
    simp only [Fr.put, Fr.get] at ht
    split at ht
    · rename_i e; subst e
      simp only [Option.some.injEq] at ht; subst ht
      refine ⟨hd, ?_⟩
      have : (a.put (some d) v).tmps.getD d undef = v := by simp [Act.put, Array.getD, h.1, hd]
      rw [this]; exact hv
    · rename_i e
      have : (a.put (some d) v).tmps.getD t undef = a.tmps.getD t undef := by
        simp only [Act.put, Array.getD_eq_getD_getElem?, Array.getElem?_setIfInBounds]
        simp [e]
      rw [this]; exact h.2 t y ht

theorem OpW_yld {E : Env} {N z : Nat} {o : Oper} {Q : Post} {K : Fr → Store → Prop} {fr : Fr} {σ σ' : Store} {v : PV} {nid : Nat} (hnid : σ.length ≤ nid) (h : Yld E nid o fr σ v σ') (hd : ∀ t, o.dst = some t → t < N)
    (hk : K (Fr.put fr o.dst v) σ') : OpW E N z o Q K fr σ := fun cx a ht hn hf => by
  obtain ⟨n, val, w', cx', h1, h2, h3, h4, h5, h6, _⟩ := h cx a.eval hn hf.ev (fun hA => by have := hn.A nid hA; omega) (Nat.le_trans hn.top hnid)
  subst h3
  have : FR E cx' N (Fr.put fr o.dst v) (a.put o.dst val).tmps := (hf.step h6).put h5 hd
  simp only [Oper.wp, h1]
  rcases h2 with rfl | ⟨rfl, rfl⟩
  · exact ⟨_, _, cx', rfl, hk, h4, this, by cases o.dst <;> rfl, h6⟩
  · exact ⟨_, _, cx', rfl, hk, h4, this, by cases o.dst <;> rfl, h6⟩

/-- An operation that leaves the world alone. -/
theorem Yld_pure {E : Env} {nid : Nat} {o : Oper} {fr : Fr} {σ : Store} {v : PV}
    (h : ∀ (cx : Cx) (ρ : Operand → Value), Now E cx σ → Ev E cx fr ρ → ∃ val, (execOp ρ o).run E.P cx.w = .ok (.value val) cx.w ∧ V E cx v val) : Yld E nid o fr σ v σ := fun cx ρ hn he _ _ => by
  obtain ⟨val, h1, h2⟩ := h cx ρ hn he
  exact ⟨_, val, _, cx, h1, .inl rfl, rfl, hn, h2, Step.refl cx, fun _ h => .inl h⟩

end Go.Proofs.Ythllcknfidnfaaa
